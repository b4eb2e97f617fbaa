/- Layer 8 (header): what each function computes. -/
import Derived.Test.YtdefhoaaeofapaaP01j
import Derived.Test.YtdefhoaaeofapaaL08
namespace Go.Proofs.Ytdefhoaaeofapaa
open Go Go.HX
attribute [local irreducible] Ret XRun XOps XDr XOne Does Gives
set_option maxRecDepth 4000
set_option maxHeartbeats 1000000
section
variable {S : SP} {w : World} {G : List HProp}



theorem header_Count_spec (x : Int) (h0 : 0 ≤ x) (h1 : x ≤ 18446744073709551615) (h : Sat S w G) :
    Ret Try.prog F.header_Count #[.int .u64 x] w (fun v w' => v = .int .u64 (x % 4294967296) ∧ Sat S w' G) := by
  refine ret_of is_header_Count rfl ?_
  repeat' (first | (refine p_call rfl rfl (field_Get_spec _ _ _ h0 h1 h) ?_; rintro _ _ ⟨rfl, h⟩) | (refine gO ?_; first | refine p_val rfl (gives_pure rfl) ?_) | refine x_nil ?_ | (refine gX ?_; first | refine x_seq ?_ | refine x_ops ?_ | refine x_skip ?_))
  exact x_ret' is_header_Count rfl ⟨by rw [get_count]; rfl, h⟩







theorem header_Lengths_spec (k v : Int) (h : Sat S w G) :
    Ret Try.prog F.header_Lengths #[.int .i64 k, .int .i64 v] w (fun r w' => r = .tuple #[.int .u64 (lengthsV k v).1, .int .i64 (lengthsV k v).2] ∧ Sat S w' G) := by
  refine ret_of is_header_Lengths rfl ?_
  by_cases h1 : k < 0 ∨ v < 0
  · repeat' (first | (refine gO ?_; refine p_skip rfl ?_) | (refine gO ?_; first | refine p_val rfl (gives_pure rfl) ?_ | (refine gB _ ?_; first | refine p_cmp_t rfl rfl rfl rfl (by first | exact rfl | (simp only [cmpProp]; omega) | decide) ?_ | refine p_cmp_f rfl rfl rfl rfl (by first | exact rfl | (simp only [cmpProp]; omega) | decide) ?_ | (refine p_cmp rfl rfl rfl rfl (fun hc => ?_) (fun hc => ?_) <;> simp only [cmpProp] at hc)) | refine p_val rfl (g_conv_i rfl (by omega) (by omega)) ?_ | refine p_val rfl (g_conv_u rfl (by omega) (by omega)) ?_) | refine x_nil ?_ | (refine gX ?_; first | refine x_seq ?_ | refine x_ops ?_ | refine x_cond_t rfl ?_ | refine x_cond_f rfl ?_ | refine x_block ?_ | refine x_skip ?_) | refine x_blk ?_)
    all_goals first | (exfalso; omega) | exact x_ret' is_header_Lengths rfl ⟨by rw [lengthsV, if_pos h1]; rfl, h⟩
  · by_cases h2 : 64 < k ∨ 128 < v
    · repeat' (first | (refine gO ?_; refine p_skip rfl ?_) | (refine gO ?_; first | refine p_val rfl (gives_pure rfl) ?_ | (refine gB _ ?_; first | refine p_cmp_t rfl rfl rfl rfl (by first | exact rfl | (simp only [cmpProp]; omega) | decide) ?_ | refine p_cmp_f rfl rfl rfl rfl (by first | exact rfl | (simp only [cmpProp]; omega) | decide) ?_ | (refine p_cmp rfl rfl rfl rfl (fun hc => ?_) (fun hc => ?_) <;> simp only [cmpProp] at hc)) | refine p_val rfl (g_conv_i rfl (by omega) (by omega)) ?_ | refine p_val rfl (g_conv_u rfl (by omega) (by omega)) ?_) | refine x_nil ?_ | (refine gX ?_; first | refine x_seq ?_ | refine x_ops ?_ | refine x_cond_t rfl ?_ | refine x_cond_f rfl ?_ | refine x_block ?_ | refine x_skip ?_) | refine x_blk ?_)
      all_goals first | (exfalso; omega) | exact x_ret' is_header_Lengths rfl ⟨by rw [lengthsV, if_neg h1, if_pos h2]; rfl, h⟩
    · repeat' (first | (refine gO ?_; refine p_skip rfl ?_) | (refine gO ?_; first | refine p_val rfl (gives_pure rfl) ?_ | (refine gB _ ?_; first | refine p_cmp_t rfl rfl rfl rfl (by first | exact rfl | (simp only [cmpProp]; omega) | decide) ?_ | refine p_cmp_f rfl rfl rfl rfl (by first | exact rfl | (simp only [cmpProp]; omega) | decide) ?_ | (refine p_cmp rfl rfl rfl rfl (fun hc => ?_) (fun hc => ?_) <;> simp only [cmpProp] at hc)) | refine p_val rfl (g_conv_i rfl (by omega) (by omega)) ?_ | refine p_val rfl (g_conv_u rfl (by omega) (by omega)) ?_) | refine x_nil ?_ | (refine gX ?_; first | refine x_seq ?_ | refine x_ops ?_ | refine x_cond_t rfl ?_ | refine x_cond_f rfl ?_ | refine x_block ?_ | refine x_skip ?_) | refine x_blk ?_)
      refine p_lit [.int .u64 k, .int .u64 v, .int .u64 44203] rfl rfl rfl rfl rfl rfl h (fun v1 w h => ?_)
      refine p_lit [.int .i64 16, .int .i64 16, .int .i64 16] rfl rfl rfl rfl rfl rfl h (fun v2 w h => ?_)
      refine p_call rfl rfl (field_Join_spec [k, v, 44203] [16, 16, 16] (by decide) ?_ ?_ (fun w h => ownS_rd h (.there .here)) (fun w h => ownS_rd h .here) h) ?_
      · intro i
        rcases i with _ | _ | _ | i <;> simp
      · intro i
        rcases i with _ | _ | _ | i <;> simp <;> omega
      · rintro _ w ⟨rfl, h⟩
        rw [if_pos ⟨rfl, by decide⟩, join_lengths (by omega) (by omega) (by omega) (by omega)]
        repeat' (first | (refine gO ?_; refine p_skip rfl ?_) | (refine gO ?_; first | refine p_val rfl (gives_pure rfl) ?_ | (refine gB _ ?_; first | refine p_cmp_t rfl rfl rfl rfl (by first | exact rfl | (simp only [cmpProp]; omega) | decide) ?_ | refine p_cmp_f rfl rfl rfl rfl (by first | exact rfl | (simp only [cmpProp]; omega) | decide) ?_ | (refine p_cmp rfl rfl rfl rfl (fun hc => ?_) (fun hc => ?_) <;> simp only [cmpProp] at hc)) | refine p_val rfl (g_conv_i rfl (by omega) (by omega)) ?_ | refine p_val rfl (g_conv_u rfl (by omega) (by omega)) ?_) | refine x_nil ?_ | (refine gX ?_; first | refine x_seq ?_ | refine x_ops ?_ | refine x_cond_t rfl ?_ | refine x_cond_f rfl ?_ | refine x_block ?_ | refine x_skip ?_) | refine x_blk ?_)
        exact x_ret' is_header_Lengths rfl ⟨by rw [lengthsV, if_neg h1, if_neg h2]; rfl, h.drop.drop⟩

theorem header_Told_spec (x : Int) (h0 : 0 ≤ x) (h1 : x ≤ 18446744073709551615) (h : Sat S w G) :
    Ret Try.prog F.header_Told #[.int .u64 x] w (fun r w' => ((toldP x ∧ r = .tuple #[.int .i64 (x % 65536), .int .i64 (x / 65536 % 65536), .int .i64 0]) ∨ (¬ toldP x ∧ r = .tuple #[.int .i64 0, .int .i64 0, .int .i64 4])) ∧ Sat S w' G) := by
  refine ret_of is_header_Told rfl ?_
  repeat' (first | (refine gO ?_; refine p_skip rfl ?_) | (refine gD ?_; first | refine r_skip rfl rfl rfl ?_ | refine r_noop rfl rfl ⟨(by repeat (first | exact now_nil | refine now_skip rfl ?_ | refine now_cons (by first | exact ⟨_, h⟩ | exact h | exact h.cell (by repeat first | exact .here | apply Has.there) (by exact rfl) | exact h.at (by repeat first | exact .here | apply Has.there) | assumption) ?_)), ?_⟩) | (refine gO ?_; first | refine p_val rfl (gives_pure rfl) ?_ | (refine gB _ ?_; first | refine p_cmp_t rfl rfl rfl rfl (by first | exact rfl | (simp only [cmpProp]; omega) | decide) ?_ | refine p_cmp_f rfl rfl rfl rfl (by first | exact rfl | (simp only [cmpProp]; omega) | decide) ?_ | (refine p_cmp rfl rfl rfl rfl (fun hc => ?_) (fun hc => ?_) <;> simp only [cmpProp] at hc)) | refine p_val rfl (g_conv_i rfl (by omega) (by omega)) ?_ | refine p_val rfl (g_conv_u rfl (by omega) (by omega)) ?_ | (refine gL ?_; first | refine p_val rfl (g_ld rfl (h.cell (by repeat first | exact .here | apply Has.there) (by exact rfl))) ?_ | refine p_val rfl (g_lda rfl rfl (h.at (by repeat first | exact .here | apply Has.there))) ?_) | refine p_val rfl (g_idx rfl rfl (by omega) (by omega)) ?_) | refine x_nil ?_ | (refine gD ?_; first | refine r_pure rfl rfl rfl (fun _ => gives_pure rfl) ?_ | (refine gR _ ?_; first | refine r_cmp_t rfl rfl rfl rfl rfl (by first | exact rfl | (simp only [cmpProp]; omega) | decide) ?_ | refine r_cmp_f rfl rfl rfl rfl rfl (by first | exact rfl | (simp only [cmpProp]; omega) | decide) ?_ | (refine r_cmp rfl rfl rfl rfl rfl (fun hc => ?_) (fun hc => ?_) <;> simp only [cmpProp] at hc)) | refine r_pure rfl rfl rfl (fun _ => g_conv_i rfl (by omega) (by omega)) ?_ | refine r_pure rfl rfl rfl (fun _ => g_conv_u rfl (by omega) (by omega)) ?_ | (refine gLR ?_; first | refine r_ld rfl rfl rfl (h.cell (by repeat first | exact .here | apply Has.there) (by exact rfl)) ?_ | refine r_lda rfl rfl rfl rfl (h.at (by repeat first | exact .here | apply Has.there)) ?_) | refine r_pure rfl rfl rfl (fun _ => g_idx rfl rfl (by omega) (by omega)) ?_) | refine r_done rfl ?_ | (refine gX ?_; first | refine x_seq ?_ | refine x_ops ?_ | refine x_cond_t rfl ?_ | refine x_cond_f rfl ?_ | refine x_skip ?_ | (refine x_drawn rfl ?_; have h := h.drew) | refine x_drawn rfl ?_))
  refine p_lit [.int .i64 16, .int .i64 16, .int .i64 16, .int .i64 16] rfl rfl rfl rfl rfl rfl h (fun v2 w h => ?_)
  refine p_call rfl rfl (field_Spread_spec x h0 h1 [16, 16, 16, 16] (by decide) ?_ (fun w h => ownS_rd h .here) h) ?_
  · intro i
    rcases i with _ | _ | _ | _ | i <;> simp
  · rintro _ w (⟨_, u, rfl, h⟩ | ⟨hn, _⟩)
    · rw [spread_16] at h
      obtain ⟨b, cap, rfl⟩ := ownS_shape 4 h .here rfl
      have ht : toldP x ↔ (x % 65536 ≤ 64 ∧ x / 65536 % 65536 ≤ 128 ∧ x / 4294967296 % 65536 = 44203 ∧ x / 281474976710656 % 65536 = 0) := by
        unfold toldP
        omega
      have ha : 0 ≤ x % 65536 ∧ x % 65536 < 65536 := by omega
      have hb : 0 ≤ x / 65536 % 65536 ∧ x / 65536 % 65536 < 65536 := by omega
      generalize x % 65536 = p at *
      generalize x / 65536 % 65536 = q at *
      generalize x / 4294967296 % 65536 = r at *
      generalize x / 281474976710656 % 65536 = s at *
      have hrd := ownS_rd h .here
      have hrd2 := ownS_rd h.drew .here
      repeat' (first | (refine gO ?_; refine p_skip rfl ?_) | (refine gD ?_; first | refine r_skip rfl rfl rfl ?_ | refine r_noop rfl rfl ⟨(by repeat (first | exact now_nil | refine now_skip rfl ?_ | refine now_cons (by first | exact ⟨_, h⟩ | exact h | exact h.cell (by repeat first | exact .here | apply Has.there) (by exact rfl) | exact h.at (by repeat first | exact .here | apply Has.there) | assumption) ?_)), ?_⟩) | (refine p_val rfl (g_ldI (i := 0) rfl hrd rfl (by simp)) ?_; rw [show [p, q, r, s].getD 0 0 = p from rfl]) | (refine p_val rfl (g_ldI (i := 1) rfl hrd rfl (by simp)) ?_; rw [show [p, q, r, s].getD 1 0 = q from rfl]) | (refine p_val rfl (g_ldI (i := 2) rfl hrd rfl (by simp)) ?_; rw [show [p, q, r, s].getD 2 0 = r from rfl]) | (refine p_val rfl (g_ldI (i := 3) rfl hrd rfl (by simp)) ?_; rw [show [p, q, r, s].getD 3 0 = s from rfl]) | (refine r_ldI (i := 0) rfl rfl rfl hrd2 rfl (by simp) ?_; rw [show [p, q, r, s].getD 0 0 = p from rfl]) | (refine r_ldI (i := 1) rfl rfl rfl hrd2 rfl (by simp) ?_; rw [show [p, q, r, s].getD 1 0 = q from rfl]) | (refine gO ?_; first | refine p_val rfl (gives_pure rfl) ?_ | (refine gB _ ?_; first | refine p_cmp_t rfl rfl rfl rfl (by first | exact rfl | (simp only [cmpProp]; omega) | decide) ?_ | refine p_cmp_f rfl rfl rfl rfl (by first | exact rfl | (simp only [cmpProp]; omega) | decide) ?_ | (refine p_cmp rfl rfl rfl rfl (fun hc => ?_) (fun hc => ?_) <;> simp only [cmpProp] at hc)) | refine p_val rfl (g_conv_i rfl (by omega) (by omega)) ?_ | refine p_val rfl (g_conv_u rfl (by omega) (by omega)) ?_ | (refine gL ?_; first | refine p_val rfl (g_ld rfl (h.cell (by repeat first | exact .here | apply Has.there) (by exact rfl))) ?_ | refine p_val rfl (g_lda rfl rfl (h.at (by repeat first | exact .here | apply Has.there))) ?_) | refine p_val rfl (g_idx rfl rfl (by omega) (by omega)) ?_) | refine x_nil ?_ | (refine gD ?_; first | refine r_pure rfl rfl rfl (fun _ => gives_pure rfl) ?_ | (refine gR _ ?_; first | refine r_cmp_t rfl rfl rfl rfl rfl (by first | exact rfl | (simp only [cmpProp]; omega) | decide) ?_ | refine r_cmp_f rfl rfl rfl rfl rfl (by first | exact rfl | (simp only [cmpProp]; omega) | decide) ?_ | (refine r_cmp rfl rfl rfl rfl rfl (fun hc => ?_) (fun hc => ?_) <;> simp only [cmpProp] at hc)) | refine r_pure rfl rfl rfl (fun _ => g_conv_i rfl (by omega) (by omega)) ?_ | refine r_pure rfl rfl rfl (fun _ => g_conv_u rfl (by omega) (by omega)) ?_ | (refine gLR ?_; first | refine r_ld rfl rfl rfl (h.cell (by repeat first | exact .here | apply Has.there) (by exact rfl)) ?_ | refine r_lda rfl rfl rfl rfl (h.at (by repeat first | exact .here | apply Has.there)) ?_) | refine r_pure rfl rfl rfl (fun _ => g_idx rfl rfl (by omega) (by omega)) ?_) | refine r_done rfl ?_ | (refine gX ?_; first | refine x_seq ?_ | refine x_ops ?_ | refine x_cond_t rfl ?_ | refine x_cond_f rfl ?_ | refine x_skip ?_ | (refine x_drawn rfl ?_; have h := h.drew) | refine x_drawn rfl ?_))
      all_goals first | exact x_ret' is_header_Told rfl ⟨.inr ⟨fun hx => by have := ht.1 hx; omega, rfl⟩, h.drop.drop⟩ | exact x_ret' is_header_Told rfl ⟨.inl ⟨ht.2 (by omega), rfl⟩, h.drop.drop⟩
    · exact absurd (by decide) hn

theorem header_Unpack_spec (x : Int) (h0 : 0 ≤ x) (h1 : x ≤ 18446744073709551615) (h : Sat S w G) :
    Ret Try.prog F.header_Unpack #[.int .u64 x] w (fun r w' => ((1125899906842624 ≤ x ∧ r = .tuple #[.agg #[.int .u64 0, .bool false, .bool false], .int .i64 4]) ∨ (x < 1125899906842624 ∧ ∃ a b, BoolIs a (x / 281474976710656 % 2 = 1) ∧ BoolIs b (2 ≤ x / 281474976710656) ∧ r = .tuple #[.agg #[.int .u64 (x % 281474976710656), a, b], .int .i64 0])) ∧ Sat S w' G) := by
  refine ret_of is_header_Unpack rfl ?_
  have hm : mostZ 50 = 1125899906842623 := rfl
  repeat' (first | (refine gO ?_; first | refine p_val rfl (gives_pure rfl) ?_ | (refine gB _ ?_; first | refine p_cmp_t rfl rfl rfl rfl (by first | exact rfl | (simp only [cmpProp]; omega) | decide) ?_ | refine p_cmp_f rfl rfl rfl rfl (by first | exact rfl | (simp only [cmpProp]; omega) | decide) ?_ | (refine p_cmp rfl rfl rfl rfl (fun hc => ?_) (fun hc => ?_) <;> simp only [cmpProp] at hc)) | refine p_val rfl (g_bld rfl rfl) ?_) | refine x_nil ?_ | (refine gX ?_; first | refine x_seq ?_ | refine x_ops ?_ | refine x_cond_t rfl ?_ | refine x_cond_f rfl ?_ | refine x_skip ?_))
  refine p_do rfl (d_new h) ?_
  rintro _ w ⟨b, rfl, h⟩
  repeat' (first | (refine p_call rfl rfl (field_Most_spec _ h) ?_; rintro _ _ ⟨rfl, h⟩) | (refine gO ?_; first | refine p_val rfl (gives_pure rfl) ?_ | (refine gB _ ?_; first | refine p_cmp_t rfl rfl rfl rfl (by first | exact rfl | (simp only [cmpProp]; omega) | decide) ?_ | refine p_cmp_f rfl rfl rfl rfl (by first | exact rfl | (simp only [cmpProp]; omega) | decide) ?_ | (refine p_cmp rfl rfl rfl rfl (fun hc => ?_) (fun hc => ?_) <;> simp only [cmpProp] at hc)) | refine p_val rfl (g_bld rfl rfl) ?_) | refine x_nil ?_ | (refine gX ?_; first | refine x_seq ?_ | refine x_ops ?_ | refine x_cond_t rfl ?_ | refine x_cond_f rfl ?_ | refine x_skip ?_))
  · refine p_do rfl (d_stn rfl rfl rfl (by decide) h (by decide)) ?_
    rintro _ w ⟨rfl, h⟩
    repeat' (first | (refine gO ?_; first | refine p_val rfl (gives_pure rfl) ?_ | (refine gB _ ?_; first | refine p_cmp_t rfl rfl rfl rfl (by first | exact rfl | (simp only [cmpProp]; omega) | decide) ?_ | refine p_cmp_f rfl rfl rfl rfl (by first | exact rfl | (simp only [cmpProp]; omega) | decide) ?_ | (refine p_cmp rfl rfl rfl rfl (fun hc => ?_) (fun hc => ?_) <;> simp only [cmpProp] at hc)) | refine p_val rfl (g_bld rfl rfl) ?_) | refine x_nil ?_ | (refine gX ?_; first | refine x_seq ?_ | refine x_ops ?_ | refine x_cond_t rfl ?_ | refine x_cond_f rfl ?_ | refine x_skip ?_))
    exact x_retc1 is_header_Unpack rfl rfl h (by kernel_rfl) rfl ⟨.inl ⟨by omega, rfl⟩, h.drop⟩
  · refine p_call rfl rfl (field_Get_spec x 0 48 h0 h1 h) ?_
    rintro _ w ⟨rfl, h⟩
    repeat' (first | (refine gO ?_; first | refine p_val rfl (gives_pure rfl) ?_ | (refine gB _ ?_; first | refine p_cmp_t rfl rfl rfl rfl (by first | exact rfl | (simp only [cmpProp]; omega) | decide) ?_ | refine p_cmp_f rfl rfl rfl rfl (by first | exact rfl | (simp only [cmpProp]; omega) | decide) ?_ | (refine p_cmp rfl rfl rfl rfl (fun hc => ?_) (fun hc => ?_) <;> simp only [cmpProp] at hc)) | refine p_val rfl (g_bld rfl rfl) ?_) | refine x_nil ?_ | (refine gX ?_; first | refine x_seq ?_ | refine x_ops ?_ | refine x_cond_t rfl ?_ | refine x_cond_f rfl ?_ | refine x_skip ?_))
    refine p_call rfl rfl (field_Flag_spec x 48 h0 h1 h) ?_
    rintro ta w ⟨hta, h⟩
    repeat' (first | (refine gO ?_; first | refine p_val rfl (gives_pure rfl) ?_ | (refine gB _ ?_; first | refine p_cmp_t rfl rfl rfl rfl (by first | exact rfl | (simp only [cmpProp]; omega) | decide) ?_ | refine p_cmp_f rfl rfl rfl rfl (by first | exact rfl | (simp only [cmpProp]; omega) | decide) ?_ | (refine p_cmp rfl rfl rfl rfl (fun hc => ?_) (fun hc => ?_) <;> simp only [cmpProp] at hc)) | refine p_val rfl (g_bld rfl rfl) ?_) | refine x_nil ?_ | (refine gX ?_; first | refine x_seq ?_ | refine x_ops ?_ | refine x_cond_t rfl ?_ | refine x_cond_f rfl ?_ | refine x_skip ?_))
    refine p_call rfl rfl (field_Flag_spec x 49 h0 h1 h) ?_
    rintro tb w ⟨htb, h⟩
    repeat' (first | (refine gO ?_; first | refine p_val rfl (gives_pure rfl) ?_ | (refine gB _ ?_; first | refine p_cmp_t rfl rfl rfl rfl (by first | exact rfl | (simp only [cmpProp]; omega) | decide) ?_ | refine p_cmp_f rfl rfl rfl rfl (by first | exact rfl | (simp only [cmpProp]; omega) | decide) ?_ | (refine p_cmp rfl rfl rfl rfl (fun hc => ?_) (fun hc => ?_) <;> simp only [cmpProp] at hc)) | refine p_val rfl (g_bld rfl rfl) ?_) | refine x_nil ?_ | (refine gX ?_; first | refine x_seq ?_ | refine x_ops ?_ | refine x_cond_t rfl ?_ | refine x_cond_f rfl ?_ | refine x_skip ?_))
    obtain ⟨ba, rfl⟩ := hta.bool
    obtain ⟨bb, rfl⟩ := htb.bool
    refine p_val rfl (g_bld rfl rfl) ?_
    refine p_do rfl (d_stn rfl rfl rfl (by simp [Value.cells, Value.oneCell']) h (by decide)) ?_
    rintro _ w ⟨rfl, h⟩
    repeat' (first | (refine gO ?_; first | refine p_val rfl (gives_pure rfl) ?_ | (refine gB _ ?_; first | refine p_cmp_t rfl rfl rfl rfl (by first | exact rfl | (simp only [cmpProp]; omega) | decide) ?_ | refine p_cmp_f rfl rfl rfl rfl (by first | exact rfl | (simp only [cmpProp]; omega) | decide) ?_ | (refine p_cmp rfl rfl rfl rfl (fun hc => ?_) (fun hc => ?_) <;> simp only [cmpProp] at hc)) | refine p_val rfl (g_bld rfl rfl) ?_) | refine x_nil ?_ | (refine gX ?_; first | refine x_seq ?_ | refine x_ops ?_ | refine x_cond_t rfl ?_ | refine x_cond_f rfl ?_ | refine x_skip ?_))
    have e0 : getV x 0 48 = x % 281474976710656 := by
      rw [getV, if_pos (by decide)]
      show x / 1 % 281474976710656 = _
      omega
    have e1 : getV x 48 1 = x / 281474976710656 % 2 := by rw [getV, if_pos (by decide)]; rfl
    have e2 : getV x 49 1 = x / 562949953421312 % 2 := by rw [getV, if_pos (by decide)]; rfl
    rw [e1] at hta
    rw [e2] at htb
    rw [e0] at h
    refine x_retc1 is_header_Unpack rfl rfl h (by kernel_rfl) rfl ⟨.inr ⟨by omega, _, _, hta, htb.mono (by omega), rfl⟩, h.drop⟩
end
end Go.Proofs.Ytdefhoaaeofapaa
