/- The reference of layer 1: what each function computes. -/
import Derived.Test.YtjlpjhbmfakpjaaP01
import Derived.Test.YtjlpjhbmfakpjaaL01r
namespace Go.Proofs.Ytjlpjhbmfakpjaa
open Go Go.HX
set_option maxRecDepth 4000
set_option maxHeartbeats 1000000
section
variable {S : SP} {w : World} {G : List HProp}

theorem ref01_Right_spec (at_ bits : Int) (h : Sat S w G) :
    Ret Try.prog F.ref01_Right #[.int .i64 at_, .int .i64 bits] w (fun v w' => BoolIs v (fRight at_ bits) ∧ Sat S w' G) := by
  refine ret_of is_ref01_Right rfl ?_
  repeat' (first | (refine gO ?_; first | refine p_skip rfl ?_ | refine p_val rfl (gives_pure rfl) ?_ | (refine gB .sub ?_; first | refine p_val rfl (g_sub_i rfl rfl (by omega) (by omega)) ?_ | refine p_val rfl (g_sub_u rfl rfl (by omega) (by omega)) ?_) | (refine gB _ ?_; first | refine p_cmp_t rfl rfl rfl rfl (by first | exact rfl | (simp only [cmpProp]; omega) | decide) ?_ | refine p_cmp_f rfl rfl rfl rfl (by first | exact rfl | (simp only [cmpProp]; omega) | decide) ?_ | (refine p_cmp rfl rfl rfl rfl (fun hc => ?_) (fun hc => ?_) <;> simp only [cmpProp] at hc))) | refine x_nil ?_ | (refine gX ?_; first | refine x_seq ?_ | refine x_ops ?_ | refine x_skip ?_))
  all_goals refine x_ret' is_ref01_Right rfl ⟨?_, h⟩
  all_goals first | exact .t (by omega) | exact .f (by omega)

theorem ref01_Most_spec (bits : Int) (h : Sat S w G) :
    Ret Try.prog F.ref01_Most #[.int .i64 bits] w (fun v w' => v = .int .u64 (mostZ bits) ∧ Sat S w' G) := by
  refine ret_of is_ref01_Most rfl ?_
  repeat' (first | (refine gO ?_; first | refine p_skip rfl ?_ | refine p_val rfl (gives_pure rfl) ?_ | (refine gB .add ?_; first | refine p_val rfl (g_add_i rfl rfl (by omega) (by omega)) ?_ | refine p_val rfl (g_add_u rfl rfl (by omega) (by omega)) ?_) | (refine gB .mul ?_; first | refine p_val rfl (g_mul_i rfl rfl (by omega) (by omega)) ?_ | refine p_val rfl (g_mul_u rfl rfl (by omega) (by omega)) ?_) | (refine gB _ ?_; first | refine p_cmp_t rfl rfl rfl rfl (by first | exact rfl | (simp only [cmpProp]; omega) | decide) ?_ | refine p_cmp_f rfl rfl rfl rfl (by first | exact rfl | (simp only [cmpProp]; omega) | decide) ?_ | (refine p_cmp rfl rfl rfl rfl (fun hc => ?_) (fun hc => ?_) <;> simp only [cmpProp] at hc))) | refine x_nil ?_ | (refine gX ?_; first | refine x_seq ?_ | refine x_ops ?_ | refine x_cond_t rfl ?_ | refine x_cond_f rfl ?_ | refine x_block ?_ | refine x_skip ?_ | refine x_exit rfl ?_) | refine x_blk ?_)
  refine x_keep [0, 3, 4] rfl ?_
  refine x_loop_inv (fun n e w => ∃ i : Nat, n = 64 - i ∧ i ≤ 64 ∧ (i = 0 ∨ (i : Int) ≤ bits) ∧ e = [(0, .int .i64 bits), (3, .int .u64 (2 ^ i - 1)), (4, .int .i64 i)] ∧ Sat S w G) 64 ⟨0, rfl, by omega, .inl rfl, rfl, h⟩ ?_
  rintro n e w ⟨i, rfl, hi, hib, rfl, h⟩ ih
  have hp := pow_pos2 i
  have hp2 := pow_le_pow64 hi
  have hc := cast_pow2 i
  have hs : (2 : Int) ^ (i + 1) = 2 * 2 ^ i := by rw [Int.pow_succ]; omega
  by_cases h1 : (i : Int) < bits
  · by_cases h2 : i < 64
    · have hp3 := pow_lt_pow64 h2
      repeat' (first | (refine gO ?_; first | refine p_skip rfl ?_ | refine p_val rfl (gives_pure rfl) ?_ | (refine gB .add ?_; first | refine p_val rfl (g_add_i rfl rfl (by omega) (by omega)) ?_ | refine p_val rfl (g_add_u rfl rfl (by omega) (by omega)) ?_) | (refine gB .mul ?_; first | refine p_val rfl (g_mul_i rfl rfl (by omega) (by omega)) ?_ | refine p_val rfl (g_mul_u rfl rfl (by omega) (by omega)) ?_) | (refine gB _ ?_; first | refine p_cmp_t rfl rfl rfl rfl (by first | exact rfl | (simp only [cmpProp]; omega) | decide) ?_ | refine p_cmp_f rfl rfl rfl rfl (by first | exact rfl | (simp only [cmpProp]; omega) | decide) ?_ | (refine p_cmp rfl rfl rfl rfl (fun hc => ?_) (fun hc => ?_) <;> simp only [cmpProp] at hc))) | refine x_nil ?_ | (refine gX ?_; first | refine x_seq ?_ | refine x_ops ?_ | refine x_cond_t rfl ?_ | refine x_cond_f rfl ?_ | refine x_block ?_ | refine x_skip ?_ | refine x_exit rfl ?_) | refine x_blk ?_)
      refine x_keep [0, 3, 4] rfl (ih _ _ _ ?_ ⟨i + 1, rfl, by omega, by omega, ?_, h⟩)
      · omega
      · congr 3
        · congr 1; omega
    · have e64 : i = 64 := by omega
      subst e64
      repeat' (first | (refine gO ?_; first | refine p_skip rfl ?_ | refine p_val rfl (gives_pure rfl) ?_ | (refine gB .add ?_; first | refine p_val rfl (g_add_i rfl rfl (by omega) (by omega)) ?_ | refine p_val rfl (g_add_u rfl rfl (by omega) (by omega)) ?_) | (refine gB .mul ?_; first | refine p_val rfl (g_mul_i rfl rfl (by omega) (by omega)) ?_ | refine p_val rfl (g_mul_u rfl rfl (by omega) (by omega)) ?_) | (refine gB _ ?_; first | refine p_cmp_t rfl rfl rfl rfl (by first | exact rfl | (simp only [cmpProp]; omega) | decide) ?_ | refine p_cmp_f rfl rfl rfl rfl (by first | exact rfl | (simp only [cmpProp]; omega) | decide) ?_ | (refine p_cmp rfl rfl rfl rfl (fun hc => ?_) (fun hc => ?_) <;> simp only [cmpProp] at hc))) | refine x_nil ?_ | (refine gX ?_; first | refine x_seq ?_ | refine x_ops ?_ | refine x_cond_t rfl ?_ | refine x_cond_f rfl ?_ | refine x_block ?_ | refine x_skip ?_ | refine x_exit rfl ?_) | refine x_blk ?_)
      refine x_ret' is_ref01_Most rfl ⟨?_, h⟩
      rw [mostZ, if_neg (by omega), if_pos (by omega)]; rfl
  · repeat' (first | (refine gO ?_; first | refine p_skip rfl ?_ | refine p_val rfl (gives_pure rfl) ?_ | (refine gB .add ?_; first | refine p_val rfl (g_add_i rfl rfl (by omega) (by omega)) ?_ | refine p_val rfl (g_add_u rfl rfl (by omega) (by omega)) ?_) | (refine gB .mul ?_; first | refine p_val rfl (g_mul_i rfl rfl (by omega) (by omega)) ?_ | refine p_val rfl (g_mul_u rfl rfl (by omega) (by omega)) ?_) | (refine gB _ ?_; first | refine p_cmp_t rfl rfl rfl rfl (by first | exact rfl | (simp only [cmpProp]; omega) | decide) ?_ | refine p_cmp_f rfl rfl rfl rfl (by first | exact rfl | (simp only [cmpProp]; omega) | decide) ?_ | (refine p_cmp rfl rfl rfl rfl (fun hc => ?_) (fun hc => ?_) <;> simp only [cmpProp] at hc))) | refine x_nil ?_ | (refine gX ?_; first | refine x_seq ?_ | refine x_ops ?_ | refine x_cond_t rfl ?_ | refine x_cond_f rfl ?_ | refine x_block ?_ | refine x_skip ?_ | refine x_exit rfl ?_) | refine x_blk ?_)
    refine x_ret' is_ref01_Most rfl ⟨?_, h⟩
    rcases hib with rfl | hib
    · rw [mostZ, if_pos (by omega)]; rfl
    · have : bits = i := by omega
      subst this
      by_cases h0 : i = 0
      · subst h0; rw [mostZ, if_pos (by omega)]; rfl
      · rw [mostZ_in (by omega) (by omega), Int.toNat_natCast]; rfl

theorem ref01_Bits_spec (x : Nat) (hx : x < 18446744073709551616) (h : Sat S w G) :
    Ret Try.prog F.ref01_Bits #[.int .u64 x] w (fun v w' => Sat S w' (ownS T.int 1 v (ints .i64 (bitsF 64 x.testBit)) :: G)) := by
  refine ret_of is_ref01_Bits rfl ?_
  repeat' (first | (refine gO ?_; first | refine p_skip rfl ?_ | refine p_val rfl (gives_pure rfl) ?_ | (refine gB .add ?_; first | refine p_val rfl (g_add_i rfl rfl (by omega) (by omega)) ?_ | refine p_val rfl (g_add_u rfl rfl (by omega) (by omega)) ?_) | (refine gB .quo ?_; first | refine p_val rfl (g_quo_i rfl rfl (by omega) (by omega) (by omega)) ?_ | refine p_val rfl (g_quo_u rfl rfl (by omega) (by omega) (by omega)) ?_) | (refine gB .rem ?_; first | refine p_val rfl (g_rem_i rfl rfl (by omega) (by omega)) ?_) | (refine gB _ ?_; first | refine p_cmp_t rfl rfl rfl rfl (by first | exact rfl | (simp only [cmpProp]; omega) | decide) ?_ | refine p_cmp_f rfl rfl rfl rfl (by first | exact rfl | (simp only [cmpProp]; omega) | decide) ?_ | (refine p_cmp rfl rfl rfl rfl (fun hc => ?_) (fun hc => ?_) <;> simp only [cmpProp] at hc)) | refine p_val rfl (g_conv_i rfl (by omega) (by omega)) ?_ | refine p_val rfl (g_conv_u rfl (by omega) (by omega)) ?_) | refine x_nil ?_ | (refine gX ?_; first | refine x_seq ?_ | refine x_ops ?_ | refine x_cond_t rfl ?_ | refine x_cond_f rfl ?_ | refine x_block ?_ | refine x_skip ?_ | refine x_exit rfl ?_) | refine x_blk ?_)
  refine p_lit [] rfl rfl rfl rfl rfl rfl h (fun v w h => ?_)
  repeat' (first | (refine gO ?_; first | refine p_skip rfl ?_ | refine p_val rfl (gives_pure rfl) ?_ | (refine gB .add ?_; first | refine p_val rfl (g_add_i rfl rfl (by omega) (by omega)) ?_ | refine p_val rfl (g_add_u rfl rfl (by omega) (by omega)) ?_) | (refine gB .quo ?_; first | refine p_val rfl (g_quo_i rfl rfl (by omega) (by omega) (by omega)) ?_ | refine p_val rfl (g_quo_u rfl rfl (by omega) (by omega) (by omega)) ?_) | (refine gB .rem ?_; first | refine p_val rfl (g_rem_i rfl rfl (by omega) (by omega)) ?_) | (refine gB _ ?_; first | refine p_cmp_t rfl rfl rfl rfl (by first | exact rfl | (simp only [cmpProp]; omega) | decide) ?_ | refine p_cmp_f rfl rfl rfl rfl (by first | exact rfl | (simp only [cmpProp]; omega) | decide) ?_ | (refine p_cmp rfl rfl rfl rfl (fun hc => ?_) (fun hc => ?_) <;> simp only [cmpProp] at hc)) | refine p_val rfl (g_conv_i rfl (by omega) (by omega)) ?_ | refine p_val rfl (g_conv_u rfl (by omega) (by omega)) ?_) | refine x_nil ?_ | (refine gX ?_; first | refine x_seq ?_ | refine x_ops ?_ | refine x_cond_t rfl ?_ | refine x_cond_f rfl ?_ | refine x_block ?_ | refine x_skip ?_ | refine x_exit rfl ?_) | refine x_blk ?_)
  refine x_keep [0, 3, 4] rfl ?_
  refine x_loop_inv (fun n e w => ∃ (i y : Nat) (v : Value), n = 64 - i ∧ i ≤ 64 ∧ y = x / 2 ^ i ∧ e = [(0, .int .u64 (y : Int)), (3, v), (4, .int .i64 i)] ∧ Sat S w (ownS T.int 1 v (ints .i64 (bitsF i x.testBit)) :: G)) 64 ⟨0, x, _, rfl, by omega, by simp, rfl, h⟩ ?_
  clear h
  rintro n e w ⟨i, y, v, rfl, hi, hy, rfl, h⟩ ih
  by_cases h1 : (i : Int) < 64
  · have hq : y ≤ x := by rw [hy]; exact Nat.div_le_self _ _
    have hb : (y : Int) % 2 = bit (x.testBit i) := by
      have := mod2_bit y
      rw [hy, Nat.testBit_div_two_pow, Nat.zero_add] at this
      rw [← this, hy]; rfl
    repeat' (first | (refine gO ?_; first | refine p_skip rfl ?_ | refine p_val rfl (gives_pure rfl) ?_ | (refine gB .add ?_; first | refine p_val rfl (g_add_i rfl rfl (by omega) (by omega)) ?_ | refine p_val rfl (g_add_u rfl rfl (by omega) (by omega)) ?_) | (refine gB .quo ?_; first | refine p_val rfl (g_quo_i rfl rfl (by omega) (by omega) (by omega)) ?_ | refine p_val rfl (g_quo_u rfl rfl (by omega) (by omega) (by omega)) ?_) | (refine gB .rem ?_; first | refine p_val rfl (g_rem_i rfl rfl (by omega) (by omega)) ?_) | (refine gB _ ?_; first | refine p_cmp_t rfl rfl rfl rfl (by first | exact rfl | (simp only [cmpProp]; omega) | decide) ?_ | refine p_cmp_f rfl rfl rfl rfl (by first | exact rfl | (simp only [cmpProp]; omega) | decide) ?_ | (refine p_cmp rfl rfl rfl rfl (fun hc => ?_) (fun hc => ?_) <;> simp only [cmpProp] at hc)) | refine p_val rfl (g_conv_i rfl (by omega) (by omega)) ?_ | refine p_val rfl (g_conv_u rfl (by omega) (by omega)) ?_) | refine x_nil ?_ | (refine gX ?_; first | refine x_seq ?_ | refine x_ops ?_ | refine x_cond_t rfl ?_ | refine x_cond_f rfl ?_ | refine x_block ?_ | refine x_skip ?_ | refine x_exit rfl ?_) | refine x_blk ?_)
    refine p_lit [.int .i64 ((y : Int) % 2)] rfl rfl rfl rfl rfl rfl h (fun v1 w h => ?_)
    refine p_app rfl rfl rfl rfl (by decide) (h.pick (.there .here)) (ownS_rd h .here) (by simp [Value.oneCell']) (by simp [ints_length, bitsF_length]; omega) (by simp [ints_length, bitsF_length]; omega) (fun v w h => ?_)
    have h := h.sub (.cons .here (.skip (.refl _)))
    repeat' (first | (refine gO ?_; first | refine p_skip rfl ?_ | refine p_val rfl (gives_pure rfl) ?_ | (refine gB .add ?_; first | refine p_val rfl (g_add_i rfl rfl (by omega) (by omega)) ?_ | refine p_val rfl (g_add_u rfl rfl (by omega) (by omega)) ?_) | (refine gB .quo ?_; first | refine p_val rfl (g_quo_i rfl rfl (by omega) (by omega) (by omega)) ?_ | refine p_val rfl (g_quo_u rfl rfl (by omega) (by omega) (by omega)) ?_) | (refine gB .rem ?_; first | refine p_val rfl (g_rem_i rfl rfl (by omega) (by omega)) ?_) | (refine gB _ ?_; first | refine p_cmp_t rfl rfl rfl rfl (by first | exact rfl | (simp only [cmpProp]; omega) | decide) ?_ | refine p_cmp_f rfl rfl rfl rfl (by first | exact rfl | (simp only [cmpProp]; omega) | decide) ?_ | (refine p_cmp rfl rfl rfl rfl (fun hc => ?_) (fun hc => ?_) <;> simp only [cmpProp] at hc)) | refine p_val rfl (g_conv_i rfl (by omega) (by omega)) ?_ | refine p_val rfl (g_conv_u rfl (by omega) (by omega)) ?_) | refine x_nil ?_ | (refine gX ?_; first | refine x_seq ?_ | refine x_ops ?_ | refine x_cond_t rfl ?_ | refine x_cond_f rfl ?_ | refine x_block ?_ | refine x_skip ?_ | refine x_exit rfl ?_) | refine x_blk ?_)
    refine x_keep [0, 3, 4] rfl (ih _ _ _ ?_ ⟨i + 1, y / 2, v, rfl, by omega, ?_, rfl, ?_⟩)
    · omega
    · rw [hy, Nat.div_div_eq_div_mul, Nat.pow_succ]
    · rw [bitsF_succ, ← hb]; simpa [ints] using h
  · have e64 : i = 64 := by omega
    subst e64
    repeat' (first | (refine gO ?_; first | refine p_skip rfl ?_ | refine p_val rfl (gives_pure rfl) ?_ | (refine gB .add ?_; first | refine p_val rfl (g_add_i rfl rfl (by omega) (by omega)) ?_ | refine p_val rfl (g_add_u rfl rfl (by omega) (by omega)) ?_) | (refine gB .quo ?_; first | refine p_val rfl (g_quo_i rfl rfl (by omega) (by omega) (by omega)) ?_ | refine p_val rfl (g_quo_u rfl rfl (by omega) (by omega) (by omega)) ?_) | (refine gB .rem ?_; first | refine p_val rfl (g_rem_i rfl rfl (by omega) (by omega)) ?_) | (refine gB _ ?_; first | refine p_cmp_t rfl rfl rfl rfl (by first | exact rfl | (simp only [cmpProp]; omega) | decide) ?_ | refine p_cmp_f rfl rfl rfl rfl (by first | exact rfl | (simp only [cmpProp]; omega) | decide) ?_ | (refine p_cmp rfl rfl rfl rfl (fun hc => ?_) (fun hc => ?_) <;> simp only [cmpProp] at hc)) | refine p_val rfl (g_conv_i rfl (by omega) (by omega)) ?_ | refine p_val rfl (g_conv_u rfl (by omega) (by omega)) ?_) | refine x_nil ?_ | (refine gX ?_; first | refine x_seq ?_ | refine x_ops ?_ | refine x_cond_t rfl ?_ | refine x_cond_f rfl ?_ | refine x_block ?_ | refine x_skip ?_ | refine x_exit rfl ?_) | refine x_blk ?_)
    exact x_ret' is_ref01_Bits rfl h

theorem ref01_Word_spec (v : Value) (l : List Int) (hl : isBits l) (h64 : l.length ≤ 64) (hr : ∀ w, Sat S w G → RdS w 1 v (ints .i64 l)) (h : Sat S w G) :
    Ret Try.prog F.ref01_Word #[v] w (fun v w' => v = .int .u64 (wordN l) ∧ Sat S w' G) := by
  obtain ⟨a, len, cap, rfl, _, _, _⟩ := hr w h
  have hlen : l.length = len := (hr w h).ilen
  refine ret_of is_ref01_Word rfl ?_
  repeat' (first | (refine gO ?_; first | refine p_skip rfl ?_ | refine p_val rfl (gives_pure rfl) ?_ | (refine gB .add ?_; first | refine p_val rfl (g_add_i rfl rfl (by omega) (by omega)) ?_ | refine p_val rfl (g_add_u rfl rfl (by omega) (by omega)) ?_) | (refine gB .sub ?_; first | refine p_val rfl (g_sub_i rfl rfl (by omega) (by omega)) ?_ | refine p_val rfl (g_sub_u rfl rfl (by omega) (by omega)) ?_) | (refine gB .mul ?_; first | refine p_val rfl (g_mul_i rfl rfl (by omega) (by omega)) ?_ | refine p_val rfl (g_mul_u rfl rfl (by omega) (by omega)) ?_) | (refine gB _ ?_; first | refine p_cmp_t rfl rfl rfl rfl (by first | exact rfl | (simp only [cmpProp]; omega) | decide) ?_ | refine p_cmp_f rfl rfl rfl rfl (by first | exact rfl | (simp only [cmpProp]; omega) | decide) ?_ | (refine p_cmp rfl rfl rfl rfl (fun hc => ?_) (fun hc => ?_) <;> simp only [cmpProp] at hc)) | refine p_val rfl (g_conv_i rfl (by omega) (by omega)) ?_ | refine p_val rfl (g_conv_u rfl (by omega) (by omega)) ?_ | (refine gL ?_; first | refine p_val rfl (g_ld rfl (h.cell (by repeat first | exact .here | apply Has.there) (by exact rfl))) ?_ | refine p_val rfl (g_lda rfl rfl (h.at (by repeat first | exact .here | apply Has.there))) ?_) | refine p_val rfl (g_idx rfl rfl (by omega) (by omega)) ?_) | refine x_nil ?_ | (refine gX ?_; first | refine x_seq ?_ | refine x_ops ?_ | refine x_cond_t rfl ?_ | refine x_cond_f rfl ?_ | refine x_block ?_ | refine x_skip ?_ | refine x_exit rfl ?_) | refine x_blk ?_)
  refine x_keep [0, 3, 4] rfl ?_
  refine x_loop_inv (fun n e w => ∃ (y : Nat), n ≤ len ∧ y = wordN (l.drop n) ∧ e = [(0, .slice a len cap), (3, .int .u64 (y : Int)), (4, .int .i64 ((n : Int) - 1))] ∧ Sat S w G) len ⟨0, by omega, by rw [List.drop_eq_nil_of_le (by omega)]; rfl, rfl, h⟩ ?_
  clear h
  rintro i e w ⟨y, hi, hy, rfl, h⟩ ih
  by_cases h1 : i = 0
  · subst h1
    repeat' (first | (refine gO ?_; first | refine p_skip rfl ?_ | refine p_val rfl (gives_pure rfl) ?_ | (refine gB .add ?_; first | refine p_val rfl (g_add_i rfl rfl (by omega) (by omega)) ?_ | refine p_val rfl (g_add_u rfl rfl (by omega) (by omega)) ?_) | (refine gB .sub ?_; first | refine p_val rfl (g_sub_i rfl rfl (by omega) (by omega)) ?_ | refine p_val rfl (g_sub_u rfl rfl (by omega) (by omega)) ?_) | (refine gB .mul ?_; first | refine p_val rfl (g_mul_i rfl rfl (by omega) (by omega)) ?_ | refine p_val rfl (g_mul_u rfl rfl (by omega) (by omega)) ?_) | (refine gB _ ?_; first | refine p_cmp_t rfl rfl rfl rfl (by first | exact rfl | (simp only [cmpProp]; omega) | decide) ?_ | refine p_cmp_f rfl rfl rfl rfl (by first | exact rfl | (simp only [cmpProp]; omega) | decide) ?_ | (refine p_cmp rfl rfl rfl rfl (fun hc => ?_) (fun hc => ?_) <;> simp only [cmpProp] at hc)) | refine p_val rfl (g_conv_i rfl (by omega) (by omega)) ?_ | refine p_val rfl (g_conv_u rfl (by omega) (by omega)) ?_ | (refine gL ?_; first | refine p_val rfl (g_ld rfl (h.cell (by repeat first | exact .here | apply Has.there) (by exact rfl))) ?_ | refine p_val rfl (g_lda rfl rfl (h.at (by repeat first | exact .here | apply Has.there))) ?_) | refine p_val rfl (g_idx rfl rfl (by omega) (by omega)) ?_) | refine x_nil ?_ | (refine gX ?_; first | refine x_seq ?_ | refine x_ops ?_ | refine x_cond_t rfl ?_ | refine x_cond_f rfl ?_ | refine x_block ?_ | refine x_skip ?_ | refine x_exit rfl ?_) | refine x_blk ?_)
    refine x_ret' is_ref01_Word rfl ⟨?_, h⟩
    rw [hy]; rfl
  · obtain ⟨j, rfl⟩ : ∃ j, i = j + 1 := ⟨i - 1, by omega⟩
    have hrd := hr w h
    obtain ⟨b, o, rfl⟩ := hrd.addr (by omega)
    have hy2 : y < 2 ^ (len - (j + 1)) := by
      have := wordN_lt _ (isBits_drop hl (j + 1))
      rw [List.length_drop, hlen] at this
      rw [hy]; exact this
    have hp := pow_lt_pow64 (n := len - (j + 1)) (by omega)
    have hb := isBits_getD hl j
    have e1 : ((j + 1 : Nat) : Int) - 1 = (j : Int) := by omega
    rw [e1]
    repeat' (first | refine p_val rfl (g_ldI (i := j) rfl hrd (by omega) (by omega)) ?_ | (refine gO ?_; first | refine p_skip rfl ?_ | refine p_val rfl (gives_pure rfl) ?_ | (refine gB .add ?_; first | refine p_val rfl (g_add_i rfl rfl (by omega) (by omega)) ?_ | refine p_val rfl (g_add_u rfl rfl (by omega) (by omega)) ?_) | (refine gB .sub ?_; first | refine p_val rfl (g_sub_i rfl rfl (by omega) (by omega)) ?_ | refine p_val rfl (g_sub_u rfl rfl (by omega) (by omega)) ?_) | (refine gB .mul ?_; first | refine p_val rfl (g_mul_i rfl rfl (by omega) (by omega)) ?_ | refine p_val rfl (g_mul_u rfl rfl (by omega) (by omega)) ?_) | (refine gB _ ?_; first | refine p_cmp_t rfl rfl rfl rfl (by first | exact rfl | (simp only [cmpProp]; omega) | decide) ?_ | refine p_cmp_f rfl rfl rfl rfl (by first | exact rfl | (simp only [cmpProp]; omega) | decide) ?_ | (refine p_cmp rfl rfl rfl rfl (fun hc => ?_) (fun hc => ?_) <;> simp only [cmpProp] at hc)) | refine p_val rfl (g_conv_i rfl (by omega) (by omega)) ?_ | refine p_val rfl (g_conv_u rfl (by omega) (by omega)) ?_ | (refine gL ?_; first | refine p_val rfl (g_ld rfl (h.cell (by repeat first | exact .here | apply Has.there) (by exact rfl))) ?_ | refine p_val rfl (g_lda rfl rfl (h.at (by repeat first | exact .here | apply Has.there))) ?_) | refine p_val rfl (g_idx rfl rfl (by omega) (by omega)) ?_) | refine x_nil ?_ | (refine gX ?_; first | refine x_seq ?_ | refine x_ops ?_ | refine x_cond_t rfl ?_ | refine x_cond_f rfl ?_ | refine x_block ?_ | refine x_skip ?_ | refine x_exit rfl ?_) | refine x_blk ?_)
    refine x_keep [0, 3, 4] rfl (ih _ _ _ (Nat.lt_succ_self j) ⟨2 * y + (l.getD j 0).toNat, by omega, ?_, ?_, h⟩)
    · rw [hy, wordN_drop (l := l) (i := j) (by omega)]
    · congr 3
      congr 1
      omega

theorem ref01_Get_spec (x : Nat) (at_ bits : Int) (hx : x < 18446744073709551616) (h : Sat S w G) :
    Ret Try.prog F.ref01_Get #[.int .u64 x, .int .i64 at_, .int .i64 bits] w (fun v w' => v = .int .u64 (getV x at_ bits) ∧ Sat S w' G) := by
  refine ret_of is_ref01_Get rfl ?_
  repeat' (first | (refine p_call rfl rfl (ref01_Right_spec _ _ h) ?_; rintro _ _ ⟨⟨rfl, hp⟩ | ⟨rfl, hp⟩, h⟩) | (refine p_call rfl rfl (ref01_Bits_spec _ hx h) ?_; intro v w h) | (refine gO ?_; first | refine p_skip rfl ?_ | refine p_val rfl (gives_pure rfl) ?_ | (refine gB .add ?_; first | refine p_val rfl (g_add_i rfl rfl (by omega) (by omega)) ?_ | refine p_val rfl (g_add_u rfl rfl (by omega) (by omega)) ?_)) | refine x_nil ?_ | (refine gX ?_; first | refine x_seq ?_ | refine x_ops ?_ | refine x_cond_t rfl ?_ | refine x_cond_f rfl ?_ | refine x_skip ?_))
  · obtain ⟨a0, a1, b0, b1⟩ := hp
    obtain ⟨a, rfl⟩ := Int.eq_ofNat_of_zero_le a0
    obtain ⟨n, rfl⟩ := Int.eq_ofNat_of_zero_le (show 0 ≤ bits by omega)
    have hrd := ownS_rd h .here
    obtain ⟨ad, len, cap, rfl, hlc, _, _⟩ := hrd
    have hrd := ownS_rd h .here
    have hlen : 64 = len := by have := hrd.ilen; rw [bitsF_length] at this; exact this
    obtain ⟨b, o, rfl⟩ := hrd.addr (by omega)
    refine p_val rfl (g_slc (l' := a) (h' := a + n) rfl rfl rfl rfl (by simp) (by omega) (by omega)) ?_
    rw [if_neg (by omega)]
    refine p_call rfl rfl (ref01_Word_spec (G := ownS T.int 1 (.slice (some ⟨b, o, none⟩) len cap) (ints .i64 (bitsF 64 x.testBit)) :: G) _ (bitsF n (fun i => x.testBit (a + i))) (bitsF_is _ _) (by rw [bitsF_length]; omega) (fun w h => ?_) h) ?_
    · have hrd := ownS_rd h .here
      refine ⟨_, _, _, rfl, by omega, by rw [ints_length, bitsF_length]; omega, fun _ => ⟨b, o + a, by simp [addr_add], fun j u hj => ?_⟩⟩
      have hjn : j < n := by have := (List.getElem?_eq_some_iff.1 hj).1; rw [ints_length, bitsF_length] at this; exact this
      rw [ints_get (by rw [bitsF_length]; exact hjn), bitsF_getD hjn] at hj
      have h2 := hrd.cell (j := a + j) (u := u) (by rw [ints_get (by rw [bitsF_length]; omega), bitsF_getD (by omega)]; exact hj)
      rw [Nat.add_assoc]; exact h2
    · rintro _ w ⟨rfl, h⟩
      have h := h.drop
      repeat' (first | (refine gO ?_; first | refine p_skip rfl ?_ | refine p_val rfl (gives_pure rfl) ?_ | (refine gB .add ?_; first | refine p_val rfl (g_add_i rfl rfl (by omega) (by omega)) ?_ | refine p_val rfl (g_add_u rfl rfl (by omega) (by omega)) ?_)) | refine x_nil ?_ | (refine gX ?_; first | refine x_seq ?_ | refine x_ops ?_ | refine x_cond_t rfl ?_ | refine x_cond_f rfl ?_ | refine x_skip ?_))
      refine x_ret' is_ref01_Get rfl ⟨?_, h⟩
      show Value.int .u64 _ = _
      rw [wordN_get, getV, if_pos ⟨by omega, by omega, by omega, by omega⟩, getZ_nat]
  · exact x_ret' is_ref01_Get rfl ⟨by rw [getV, if_neg hp]; rfl, h⟩

theorem ref01_Put_spec (x y : Nat) (at_ bits : Int) (hx : x < 18446744073709551616) (hyy : y < 18446744073709551616) (h : Sat S w G) :
    Ret Try.prog F.ref01_Put #[.int .u64 x, .int .i64 at_, .int .i64 bits, .int .u64 y] w (fun v w' => v = .tuple #[.int .u64 (putV x at_ bits y).1, .int .i64 (putV x at_ bits y).2] ∧ Sat S w' G) := by
  refine ret_of is_ref01_Put rfl ?_
  have hb := mostZ_bounds bits
  repeat' (first | (refine p_call rfl rfl (ref01_Right_spec _ _ h) ?_; rintro _ _ ⟨⟨rfl, hp⟩ | ⟨rfl, hp⟩, h⟩) | (refine p_call rfl rfl (ref01_Most_spec _ h) ?_; rintro _ _ ⟨rfl, h⟩) | (refine p_call rfl rfl (ref01_Bits_spec _ (by assumption) h) ?_; intro v w h) | (refine gO ?_; first | refine p_skip rfl ?_ | refine p_val rfl (gives_pure rfl) ?_ | (refine gB .add ?_; first | refine p_val rfl (g_add_i rfl rfl (by omega) (by omega)) ?_ | refine p_val rfl (g_add_u rfl rfl (by omega) (by omega)) ?_) | (refine gB _ ?_; first | refine p_cmp_t rfl rfl rfl rfl (by first | exact rfl | (simp only [cmpProp]; omega) | decide) ?_ | refine p_cmp_f rfl rfl rfl rfl (by first | exact rfl | (simp only [cmpProp]; omega) | decide) ?_ | (refine p_cmp rfl rfl rfl rfl (fun hc => ?_) (fun hc => ?_) <;> simp only [cmpProp] at hc)) | (refine gL ?_; first | refine p_val rfl (g_ld rfl (h.cell (by repeat first | exact .here | apply Has.there) (by exact rfl))) ?_ | refine p_val rfl (g_lda rfl rfl (h.at (by repeat first | exact .here | apply Has.there))) ?_) | refine p_val rfl (g_idx rfl rfl (by omega) (by omega)) ?_) | refine x_nil ?_ | (refine gX ?_; first | refine x_seq ?_ | refine x_ops ?_ | refine x_cond_t rfl ?_ | refine x_cond_f rfl ?_ | refine x_block ?_ | refine x_skip ?_ | refine x_exit rfl ?_) | refine x_blk ?_)
  · exact x_ret' is_ref01_Put rfl ⟨by rw [putV, if_pos hp, if_pos hc]; rfl, h⟩
  · rename_i v1 _ _
    obtain ⟨a0, a1, b0, b1⟩ := hp
    obtain ⟨a, rfl⟩ := Int.eq_ofNat_of_zero_le a0
    obtain ⟨n, rfl⟩ := Int.eq_ofNat_of_zero_le (show 0 ≤ bits by omega)
    have hv : (y : Int) ≤ mostZ n := by omega
    have hvn : y < 2 ^ n := by
      rw [mostZ_in b0 (by omega), Int.toNat_natCast] at hv
      have := cast_pow2 n
      omega
    obtain ⟨c1, cap1, rfl⟩ := ownS_shape 64 h .here (by rw [ints_length, bitsF_length])
    obtain ⟨c2, cap2, rfl⟩ := ownS_shape 64 h (.there .here) (by rw [ints_length, bitsF_length])
    refine x_keep [1, 2, 10, 11, 12] rfl ?_
    refine x_loop_inv (fun m e w => ∃ i, m = n - i ∧ i ≤ n ∧ e = [(1, .int .i64 a), (2, .int .i64 n), (10, .slice (some ⟨c2, 0, none⟩) 64 cap2), (11, .slice (some ⟨c1, 0, none⟩) 64 cap1), (12, .int .i64 i)] ∧
      Sat S w (ownS T.int 1 (.slice (some ⟨c1, 0, none⟩) 64 cap1) (ints .i64 (bitsF 64 y.testBit)) :: ownS T.int 1 (.slice (some ⟨c2, 0, none⟩) 64 cap2) (ints .i64 (bitsF 64 (putBit x a i y))) :: G)) n
      ⟨0, rfl, by omega, rfl, by rw [putBit_zero]; exact h⟩ ?_
    clear h
    rintro m e w ⟨i, rfl, hi, rfl, h⟩ ih
    by_cases h1 : i < n
    · repeat' (first | refine p_val rfl (g_ldI (i := i) rfl (ownS_rd h .here) (by omega) (by rw [bitsF_length]; omega)) ?_ | (refine gO ?_; first | refine p_skip rfl ?_ | refine p_val rfl (gives_pure rfl) ?_ | (refine gB .add ?_; first | refine p_val rfl (g_add_i rfl rfl (by omega) (by omega)) ?_ | refine p_val rfl (g_add_u rfl rfl (by omega) (by omega)) ?_) | (refine gB _ ?_; first | refine p_cmp_t rfl rfl rfl rfl (by first | exact rfl | (simp only [cmpProp]; omega) | decide) ?_ | refine p_cmp_f rfl rfl rfl rfl (by first | exact rfl | (simp only [cmpProp]; omega) | decide) ?_ | (refine p_cmp rfl rfl rfl rfl (fun hc => ?_) (fun hc => ?_) <;> simp only [cmpProp] at hc)) | (refine gL ?_; first | refine p_val rfl (g_ld rfl (h.cell (by repeat first | exact .here | apply Has.there) (by exact rfl))) ?_ | refine p_val rfl (g_lda rfl rfl (h.at (by repeat first | exact .here | apply Has.there))) ?_) | refine p_val rfl (g_idx rfl rfl (by omega) (by omega)) ?_) | refine x_nil ?_ | (refine gX ?_; first | refine x_seq ?_ | refine x_ops ?_ | refine x_cond_t rfl ?_ | refine x_cond_f rfl ?_ | refine x_block ?_ | refine x_skip ?_ | refine x_exit rfl ?_) | refine x_blk ?_)
      rw [bitsF_getD (by omega)]
      refine p_do rfl (d_stI (i := a + i) rfl rfl (h.pick (.there .here)) (by omega) (by rw [bitsF_length]; omega)) ?_
      rintro _ w ⟨rfl, h⟩
      rw [bitsF_set, putBit_succ] at h
      repeat' (first | (refine gO ?_; first | refine p_skip rfl ?_ | refine p_val rfl (gives_pure rfl) ?_ | (refine gB .add ?_; first | refine p_val rfl (g_add_i rfl rfl (by omega) (by omega)) ?_ | refine p_val rfl (g_add_u rfl rfl (by omega) (by omega)) ?_) | (refine gB _ ?_; first | refine p_cmp_t rfl rfl rfl rfl (by first | exact rfl | (simp only [cmpProp]; omega) | decide) ?_ | refine p_cmp_f rfl rfl rfl rfl (by first | exact rfl | (simp only [cmpProp]; omega) | decide) ?_ | (refine p_cmp rfl rfl rfl rfl (fun hc => ?_) (fun hc => ?_) <;> simp only [cmpProp] at hc)) | (refine gL ?_; first | refine p_val rfl (g_ld rfl (h.cell (by repeat first | exact .here | apply Has.there) (by exact rfl))) ?_ | refine p_val rfl (g_lda rfl rfl (h.at (by repeat first | exact .here | apply Has.there))) ?_) | refine p_val rfl (g_idx rfl rfl (by omega) (by omega)) ?_) | refine x_nil ?_ | (refine gX ?_; first | refine x_seq ?_ | refine x_ops ?_ | refine x_cond_t rfl ?_ | refine x_cond_f rfl ?_ | refine x_block ?_ | refine x_skip ?_ | refine x_exit rfl ?_) | refine x_blk ?_)
      exact x_keep [1, 2, 10, 11, 12] rfl (ih _ _ _ (by omega) ⟨i + 1, rfl, by omega, by simp, h.pick (.there .here)⟩)
    · have e1 : i = n := by omega
      subst e1
      repeat' (first | (refine gO ?_; first | refine p_skip rfl ?_ | refine p_val rfl (gives_pure rfl) ?_ | (refine gB .add ?_; first | refine p_val rfl (g_add_i rfl rfl (by omega) (by omega)) ?_ | refine p_val rfl (g_add_u rfl rfl (by omega) (by omega)) ?_) | (refine gB _ ?_; first | refine p_cmp_t rfl rfl rfl rfl (by first | exact rfl | (simp only [cmpProp]; omega) | decide) ?_ | refine p_cmp_f rfl rfl rfl rfl (by first | exact rfl | (simp only [cmpProp]; omega) | decide) ?_ | (refine p_cmp rfl rfl rfl rfl (fun hc => ?_) (fun hc => ?_) <;> simp only [cmpProp] at hc)) | (refine gL ?_; first | refine p_val rfl (g_ld rfl (h.cell (by repeat first | exact .here | apply Has.there) (by exact rfl))) ?_ | refine p_val rfl (g_lda rfl rfl (h.at (by repeat first | exact .here | apply Has.there))) ?_) | refine p_val rfl (g_idx rfl rfl (by omega) (by omega)) ?_) | refine x_nil ?_ | (refine gX ?_; first | refine x_seq ?_ | refine x_ops ?_ | refine x_cond_t rfl ?_ | refine x_cond_f rfl ?_ | refine x_block ?_ | refine x_skip ?_ | refine x_exit rfl ?_) | refine x_blk ?_)
      refine p_call rfl rfl (ref01_Word_spec _ (bitsF 64 (putBit x a i y)) (bitsF_is _ _) (by rw [bitsF_length]; omega) (fun w h => ownS_rd h (.there .here)) h) ?_
      rintro _ w ⟨rfl, h⟩
      have h := h.drop.drop
      repeat' (first | (refine gO ?_; first | refine p_skip rfl ?_ | refine p_val rfl (gives_pure rfl) ?_ | (refine gB .add ?_; first | refine p_val rfl (g_add_i rfl rfl (by omega) (by omega)) ?_ | refine p_val rfl (g_add_u rfl rfl (by omega) (by omega)) ?_) | (refine gB _ ?_; first | refine p_cmp_t rfl rfl rfl rfl (by first | exact rfl | (simp only [cmpProp]; omega) | decide) ?_ | refine p_cmp_f rfl rfl rfl rfl (by first | exact rfl | (simp only [cmpProp]; omega) | decide) ?_ | (refine p_cmp rfl rfl rfl rfl (fun hc => ?_) (fun hc => ?_) <;> simp only [cmpProp] at hc)) | (refine gL ?_; first | refine p_val rfl (g_ld rfl (h.cell (by repeat first | exact .here | apply Has.there) (by exact rfl))) ?_ | refine p_val rfl (g_lda rfl rfl (h.at (by repeat first | exact .here | apply Has.there))) ?_) | refine p_val rfl (g_idx rfl rfl (by omega) (by omega)) ?_) | refine x_nil ?_ | (refine gX ?_; first | refine x_seq ?_ | refine x_ops ?_ | refine x_cond_t rfl ?_ | refine x_cond_f rfl ?_ | refine x_block ?_ | refine x_skip ?_ | refine x_exit rfl ?_) | refine x_blk ?_)
      refine x_ret' is_ref01_Put rfl ⟨?_, h⟩
      show Value.tuple #[Value.int .u64 _, _] = _
      obtain ⟨_, e2⟩ := put_sum (w := x) (a := a) (n := i) (v := y) hx (by omega) hvn
      rw [putV, if_pos ⟨a0, a1, b0, b1⟩, if_neg hc, wordN_put hx (by omega) hvn, putZ_nat e2]
  · exact x_ret' is_ref01_Put rfl ⟨by rw [putV, if_neg hp]; rfl, h⟩
end
end Go.Proofs.Ytjlpjhbmfakpjaa
