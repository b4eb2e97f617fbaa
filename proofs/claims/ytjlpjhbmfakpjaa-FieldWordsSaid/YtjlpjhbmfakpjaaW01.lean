/- The laws of layer 1: each answers true. -/
import Derived.Test.YtjlpjhbmfakpjaaR01
import Derived.Test.YtjlpjhbmfakpjaaL01b
import Derived.Test.YtjlpjhbmfakpjaaP01s
namespace Go.Proofs.Ytjlpjhbmfakpjaa
open Go Go.HX
set_option maxRecDepth 4000
set_option maxHeartbeats 1000000
section
variable {S : SP} {w : World} {G : List HProp}

theorem law01_awake_spec (h : Sat S w G) : Ret Try.prog F.law01_awake #[] w (fun v w' => v = .bool true ∧ Sat S w' G) := by
  refine ret_of is_law01_awake rfl ?_
  have e1 : putV 0 4 4 15 = (240, 0) := by decide
  have e2 : wordsZ ⟨#[97, 98, 99]⟩ = [6513249] := by decide +kernel
  repeat' (first | (refine p_call rfl rfl (field_Put_spec _ _ _ _ (by decide) (by decide) (by decide) h) ?_; rintro _ w ⟨rfl, h⟩; rw [e1]) | (refine p_call rfl rfl (field_Words_spec _ (by decide) h) ?_; intro v w h; rw [e2] at h; obtain ⟨b, cap, rfl⟩ := ownS_shape 1 h .here rfl) | (refine p_val rfl (g_ldI (i := 0) rfl (ownS_rd h .here) (by omega) (by decide)) ?_; rw [show ([6513249] : List Int).getD 0 0 = 6513249 from rfl]) | (refine gO ?_; first | refine p_skip rfl ?_ | refine p_val rfl (gives_pure rfl) ?_ | (refine gB _ ?_; first | refine p_cmp_t rfl rfl rfl rfl (by first | exact rfl | (simp only [cmpProp]; omega) | decide) ?_ | refine p_cmp_f rfl rfl rfl rfl (by first | exact rfl | (simp only [cmpProp]; omega) | decide) ?_ | (refine p_cmp rfl rfl rfl rfl (fun hc => ?_) (fun hc => ?_) <;> simp only [cmpProp] at hc)) | (refine gL ?_; first | refine p_val rfl (g_ld rfl (h.cell (by repeat first | exact .here | apply Has.there) (by exact rfl))) ?_ | refine p_val rfl (g_lda rfl rfl (h.at (by repeat first | exact .here | apply Has.there))) ?_) | refine p_val rfl (g_idx rfl rfl (by omega) (by omega)) ?_) | refine x_nil ?_ | (refine gX ?_; first | refine x_seq ?_ | refine x_ops ?_ | refine x_skip ?_))
  exact x_ret' is_law01_awake rfl ⟨rfl, h.drop⟩

theorem law01_FieldGets_spec (x y : Nat) (at_ bits : Int) (hx : x < 18446744073709551616) (hy : y < 18446744073709551616) (h : Sat S w G) :
    Ret Try.prog F.law01_FieldGets #[.int .u64 x, .int .i64 at_, .int .i64 bits, .int .u64 y] w (fun v w' => v = .bool true ∧ Sat S w' G) := by
  refine ret_of is_law01_FieldGets rfl ?_
  by_cases hr : fRight at_ bits
  all_goals
    repeat' (first | (refine p_call rfl rfl (law01_awake_spec h) ?_; rintro _ w ⟨rfl, h⟩) | (refine p_call rfl rfl (field_Put_spec _ _ _ _ (by omega) (by omega) (by omega) h) ?_; rintro _ w ⟨rfl, h⟩) | (refine p_call rfl rfl (ref01_Put_spec _ _ _ _ hx hy h) ?_; rintro _ w ⟨rfl, h⟩) | (refine p_call rfl rfl (field_Right_spec _ _ h) ?_; rintro _ w ⟨⟨rfl, hp⟩ | ⟨rfl, hp⟩, h⟩) | (refine p_call rfl rfl (ref01_Right_spec _ _ h) ?_; rintro _ w ⟨⟨rfl, hp2⟩ | ⟨rfl, hp2⟩, h⟩) | (refine p_call rfl rfl (field_Most_spec _ h) ?_; rintro _ w ⟨rfl, h⟩) | (refine p_call rfl rfl (ref01_Most_spec _ h) ?_; rintro _ w ⟨rfl, h⟩) | (refine p_call rfl rfl (field_Get_spec _ _ _ (by omega) (by omega) h) ?_; rintro _ w ⟨rfl, h⟩) | (refine p_call rfl rfl (ref01_Get_spec _ _ _ hx h) ?_; rintro _ w ⟨rfl, h⟩) | contradiction | (refine gO ?_; first | refine p_skip rfl ?_ | refine p_val rfl (gives_pure rfl) ?_ | (refine gB _ ?_; first | refine p_cmp_t rfl rfl rfl rfl (by first | exact rfl | (simp only [cmpProp]; omega) | decide) ?_ | refine p_cmp_f rfl rfl rfl rfl (by first | exact rfl | (simp only [cmpProp]; omega) | decide) ?_ | (refine p_cmp rfl rfl rfl rfl (fun hc => ?_) (fun hc => ?_) <;> simp only [cmpProp] at hc))) | refine x_nil ?_ | (refine gX ?_; first | refine x_seq ?_ | refine x_ops ?_ | refine x_cond_t rfl ?_ | refine x_cond_f rfl ?_ | refine x_skip ?_))
  all_goals exact x_ret' is_law01_FieldGets rfl ⟨rfl, h⟩

theorem law01_FieldBack_spec (x y : Nat) (at_ bits other more : Int) (hx : x < 18446744073709551616) (hy : y < 18446744073709551616) (h : Sat S w G) :
    Ret Try.prog F.law01_FieldBack #[.int .u64 x, .int .i64 at_, .int .i64 bits, .int .u64 y, .int .i64 other, .int .i64 more] w (fun v w' => v = .bool true ∧ Sat S w' G) := by
  refine ret_of is_law01_FieldBack rfl ?_
  by_cases hr : fRight at_ bits
  · by_cases hv : mostZ bits < (y : Int)
    · have e1 : putV x at_ bits y = (0, 13) := by rw [putV, if_pos hr, if_pos hv]
      repeat' (first | (refine p_call rfl rfl (law01_awake_spec h) ?_; rintro _ w ⟨rfl, h⟩) | (refine p_call rfl rfl (field_Put_spec _ _ _ _ (by omega) (by omega) (by omega) h) ?_; rintro _ w ⟨rfl, h⟩; rw [e1]) | (refine gO ?_; first | refine p_skip rfl ?_ | refine p_val rfl (gives_pure rfl) ?_ | (refine gB .add ?_; first | refine p_val rfl (g_add_i rfl rfl (by omega) (by omega)) ?_ | refine p_val rfl (g_add_u rfl rfl (by omega) (by omega)) ?_) | (refine gB _ ?_; first | refine p_cmp_t rfl rfl rfl rfl (by first | exact rfl | (simp only [cmpProp]; omega) | decide) ?_ | refine p_cmp_f rfl rfl rfl rfl (by first | exact rfl | (simp only [cmpProp]; omega) | decide) ?_ | (refine p_cmp rfl rfl rfl rfl (fun hc => ?_) (fun hc => ?_) <;> simp only [cmpProp] at hc))) | refine x_nil ?_ | (refine gX ?_; first | refine x_seq ?_ | refine x_ops ?_ | refine x_cond_t rfl ?_ | refine x_cond_f rfl ?_ | refine x_skip ?_))
      exact x_ret' is_law01_FieldBack rfl ⟨rfl, h⟩
    · obtain ⟨a0, a1, b0, b1⟩ := hr
      obtain ⟨a, rfl⟩ := Int.eq_ofNat_of_zero_le a0
      obtain ⟨n, rfl⟩ := Int.eq_ofNat_of_zero_le (show 0 ≤ bits by omega)
      have hyn : y < 2 ^ n := (le_most (by omega) (by omega)).1 (by omega)
      have han : a + n ≤ 64 := by omega
      have hr : fRight a n := ⟨by omega, by omega, by omega, by omega⟩
      have e1 : putV x a n y = (((putN x a n y : Nat) : Int), 0) := by rw [putV, if_pos hr, if_neg hv, putZ_putN hx han hyn]
      have hl := putN_lt hx han hyn
      have g1 := get_put hx han hyn
      have g2 := put_put hx han hyn
      have hm : x / 2 ^ a % 2 ^ n < 2 ^ n := Nat.mod_lt _ (pow_pos2 n)
      have hml : x / 2 ^ a % 2 ^ n < 18446744073709551616 := Nat.lt_of_lt_of_le hm (pow_le_pow64 (by omega))
      generalize hz : putN x a n y = z at *
      generalize hg : x / 2 ^ a % 2 ^ n = q at *
      have e2 : getV x a n = (q : Int) := by rw [getV, if_pos hr, getZ_natG, hg]
      have e3 : putV z a n q = ((x : Int), 0) := by rw [putV, if_pos hr, if_neg (by have := (le_most (n := n) (v := q) (by omega) (by omega)).2 hm; omega), putZ_putN hl han hm, g2]
      have e4 : getV z a n = (y : Int) := by rw [getV, if_pos hr, getZ_natG, g1]
      by_cases ho : fRight other more
      · obtain ⟨o0, o1, m0, m1⟩ := ho
        obtain ⟨o, rfl⟩ := Int.eq_ofNat_of_zero_le o0
        obtain ⟨m, rfl⟩ := Int.eq_ofNat_of_zero_le (show 0 ≤ more by omega)
        have ho : fRight o m := ⟨by omega, by omega, by omega, by omega⟩
        by_cases hd : o + m ≤ a ∨ a + n ≤ o
        · have e5 : getV z o m = getV x o m := by
            rw [getV, getV, if_pos ho, if_pos ho, getZ_natG, getZ_natG, ← hz, get_other hx han hyn hd]
          repeat' (first | (refine p_call rfl rfl (law01_awake_spec h) ?_; rintro _ w ⟨rfl, h⟩) | (refine gO ?_; first | refine p_skip rfl ?_ | refine p_val rfl (gives_pure rfl) ?_ | (refine gB .add ?_; first | refine p_val rfl (g_add_i rfl rfl (by omega) (by omega)) ?_ | refine p_val rfl (g_add_u rfl rfl (by omega) (by omega)) ?_) | (refine gB _ ?_; first | refine p_cmp_t rfl rfl rfl rfl (by first | exact rfl | (simp only [cmpProp]; omega) | decide) ?_ | refine p_cmp_f rfl rfl rfl rfl (by first | exact rfl | (simp only [cmpProp]; omega) | decide) ?_ | (refine p_cmp rfl rfl rfl rfl (fun hc => ?_) (fun hc => ?_) <;> simp only [cmpProp] at hc))) | refine x_nil ?_ | (refine gX ?_; first | refine x_seq ?_ | refine x_ops ?_ | refine x_cond_t rfl ?_ | refine x_cond_f rfl ?_ | refine x_skip ?_))
          refine p_call rfl rfl (field_Put_spec x a n y (by omega) (by omega) (by omega) h) ?_
          rintro _ w ⟨rfl, h⟩
          rw [e1]
          repeat' (first | (refine gO ?_; first | refine p_skip rfl ?_ | refine p_val rfl (gives_pure rfl) ?_ | (refine gB .add ?_; first | refine p_val rfl (g_add_i rfl rfl (by omega) (by omega)) ?_ | refine p_val rfl (g_add_u rfl rfl (by omega) (by omega)) ?_) | (refine gB _ ?_; first | refine p_cmp_t rfl rfl rfl rfl (by first | exact rfl | (simp only [cmpProp]; omega) | decide) ?_ | refine p_cmp_f rfl rfl rfl rfl (by first | exact rfl | (simp only [cmpProp]; omega) | decide) ?_ | (refine p_cmp rfl rfl rfl rfl (fun hc => ?_) (fun hc => ?_) <;> simp only [cmpProp] at hc))) | refine x_nil ?_ | (refine gX ?_; first | refine x_seq ?_ | refine x_ops ?_ | refine x_cond_t rfl ?_ | refine x_cond_f rfl ?_ | refine x_skip ?_))
          refine p_call rfl rfl (field_Get_spec x a n (by omega) (by omega) h) ?_
          rintro _ w ⟨rfl, h⟩
          rw [e2]
          repeat' (first | (refine gO ?_; first | refine p_skip rfl ?_ | refine p_val rfl (gives_pure rfl) ?_ | (refine gB .add ?_; first | refine p_val rfl (g_add_i rfl rfl (by omega) (by omega)) ?_ | refine p_val rfl (g_add_u rfl rfl (by omega) (by omega)) ?_) | (refine gB _ ?_; first | refine p_cmp_t rfl rfl rfl rfl (by first | exact rfl | (simp only [cmpProp]; omega) | decide) ?_ | refine p_cmp_f rfl rfl rfl rfl (by first | exact rfl | (simp only [cmpProp]; omega) | decide) ?_ | (refine p_cmp rfl rfl rfl rfl (fun hc => ?_) (fun hc => ?_) <;> simp only [cmpProp] at hc))) | refine x_nil ?_ | (refine gX ?_; first | refine x_seq ?_ | refine x_ops ?_ | refine x_cond_t rfl ?_ | refine x_cond_f rfl ?_ | refine x_skip ?_))
          refine p_call rfl rfl (field_Put_spec z a n q (by omega) (by omega) (by omega) h) ?_
          rintro _ w ⟨rfl, h⟩
          rw [e3]
          repeat' (first | (refine gO ?_; first | refine p_skip rfl ?_ | refine p_val rfl (gives_pure rfl) ?_ | (refine gB .add ?_; first | refine p_val rfl (g_add_i rfl rfl (by omega) (by omega)) ?_ | refine p_val rfl (g_add_u rfl rfl (by omega) (by omega)) ?_) | (refine gB _ ?_; first | refine p_cmp_t rfl rfl rfl rfl (by first | exact rfl | (simp only [cmpProp]; omega) | decide) ?_ | refine p_cmp_f rfl rfl rfl rfl (by first | exact rfl | (simp only [cmpProp]; omega) | decide) ?_ | (refine p_cmp rfl rfl rfl rfl (fun hc => ?_) (fun hc => ?_) <;> simp only [cmpProp] at hc))) | refine x_nil ?_ | (refine gX ?_; first | refine x_seq ?_ | refine x_ops ?_ | refine x_cond_t rfl ?_ | refine x_cond_f rfl ?_ | refine x_skip ?_))
          refine p_call rfl rfl (field_Get_spec z a n (by omega) (by omega) h) ?_
          rintro _ w ⟨rfl, h⟩
          rw [e4]
          repeat' (first | (refine p_call rfl rfl (ref01_Right_spec _ _ h) ?_; rintro _ w ⟨⟨rfl, hp2⟩ | ⟨rfl, hp2⟩, h⟩) | contradiction | (refine gO ?_; first | refine p_skip rfl ?_ | refine p_val rfl (gives_pure rfl) ?_ | (refine gB .add ?_; first | refine p_val rfl (g_add_i rfl rfl (by omega) (by omega)) ?_ | refine p_val rfl (g_add_u rfl rfl (by omega) (by omega)) ?_) | (refine gB _ ?_; first | refine p_cmp_t rfl rfl rfl rfl (by first | exact rfl | (simp only [cmpProp]; omega) | decide) ?_ | refine p_cmp_f rfl rfl rfl rfl (by first | exact rfl | (simp only [cmpProp]; omega) | decide) ?_ | (refine p_cmp rfl rfl rfl rfl (fun hc => ?_) (fun hc => ?_) <;> simp only [cmpProp] at hc))) | refine x_nil ?_ | (refine gX ?_; first | refine x_seq ?_ | refine x_ops ?_ | refine x_cond_t rfl ?_ | refine x_cond_f rfl ?_ | refine x_skip ?_))
          all_goals
            refine p_call rfl rfl (field_Get_spec z o m (by omega) (by omega) h) ?_
            rintro _ w ⟨rfl, h⟩
            rw [e5]
            repeat' (first | (refine gO ?_; first | refine p_skip rfl ?_ | refine p_val rfl (gives_pure rfl) ?_ | (refine gB .add ?_; first | refine p_val rfl (g_add_i rfl rfl (by omega) (by omega)) ?_ | refine p_val rfl (g_add_u rfl rfl (by omega) (by omega)) ?_) | (refine gB _ ?_; first | refine p_cmp_t rfl rfl rfl rfl (by first | exact rfl | (simp only [cmpProp]; omega) | decide) ?_ | refine p_cmp_f rfl rfl rfl rfl (by first | exact rfl | (simp only [cmpProp]; omega) | decide) ?_ | (refine p_cmp rfl rfl rfl rfl (fun hc => ?_) (fun hc => ?_) <;> simp only [cmpProp] at hc))) | refine x_nil ?_ | (refine gX ?_; first | refine x_seq ?_ | refine x_ops ?_ | refine x_cond_t rfl ?_ | refine x_cond_f rfl ?_ | refine x_skip ?_))
            refine p_call rfl rfl (field_Get_spec x o m (by omega) (by omega) h) ?_
            rintro _ w ⟨rfl, h⟩
            repeat' (first | (refine gO ?_; first | refine p_skip rfl ?_ | refine p_val rfl (gives_pure rfl) ?_ | (refine gB .add ?_; first | refine p_val rfl (g_add_i rfl rfl (by omega) (by omega)) ?_ | refine p_val rfl (g_add_u rfl rfl (by omega) (by omega)) ?_) | (refine gB _ ?_; first | refine p_cmp_t rfl rfl rfl rfl (by first | exact rfl | (simp only [cmpProp]; omega) | decide) ?_ | refine p_cmp_f rfl rfl rfl rfl (by first | exact rfl | (simp only [cmpProp]; omega) | decide) ?_ | (refine p_cmp rfl rfl rfl rfl (fun hc => ?_) (fun hc => ?_) <;> simp only [cmpProp] at hc))) | refine x_nil ?_ | (refine gX ?_; first | refine x_seq ?_ | refine x_ops ?_ | refine x_cond_t rfl ?_ | refine x_cond_f rfl ?_ | refine x_skip ?_))
            exact x_ret' is_law01_FieldBack rfl ⟨rfl, h⟩
        · repeat' (first | (refine p_call rfl rfl (law01_awake_spec h) ?_; rintro _ w ⟨rfl, h⟩) | (refine gO ?_; first | refine p_skip rfl ?_ | refine p_val rfl (gives_pure rfl) ?_ | (refine gB .add ?_; first | refine p_val rfl (g_add_i rfl rfl (by omega) (by omega)) ?_ | refine p_val rfl (g_add_u rfl rfl (by omega) (by omega)) ?_) | (refine gB _ ?_; first | refine p_cmp_t rfl rfl rfl rfl (by first | exact rfl | (simp only [cmpProp]; omega) | decide) ?_ | refine p_cmp_f rfl rfl rfl rfl (by first | exact rfl | (simp only [cmpProp]; omega) | decide) ?_ | (refine p_cmp rfl rfl rfl rfl (fun hc => ?_) (fun hc => ?_) <;> simp only [cmpProp] at hc))) | refine x_nil ?_ | (refine gX ?_; first | refine x_seq ?_ | refine x_ops ?_ | refine x_cond_t rfl ?_ | refine x_cond_f rfl ?_ | refine x_skip ?_))
          refine p_call rfl rfl (field_Put_spec x a n y (by omega) (by omega) (by omega) h) ?_
          rintro _ w ⟨rfl, h⟩
          rw [e1]
          repeat' (first | (refine gO ?_; first | refine p_skip rfl ?_ | refine p_val rfl (gives_pure rfl) ?_ | (refine gB .add ?_; first | refine p_val rfl (g_add_i rfl rfl (by omega) (by omega)) ?_ | refine p_val rfl (g_add_u rfl rfl (by omega) (by omega)) ?_) | (refine gB _ ?_; first | refine p_cmp_t rfl rfl rfl rfl (by first | exact rfl | (simp only [cmpProp]; omega) | decide) ?_ | refine p_cmp_f rfl rfl rfl rfl (by first | exact rfl | (simp only [cmpProp]; omega) | decide) ?_ | (refine p_cmp rfl rfl rfl rfl (fun hc => ?_) (fun hc => ?_) <;> simp only [cmpProp] at hc))) | refine x_nil ?_ | (refine gX ?_; first | refine x_seq ?_ | refine x_ops ?_ | refine x_cond_t rfl ?_ | refine x_cond_f rfl ?_ | refine x_skip ?_))
          refine p_call rfl rfl (field_Get_spec x a n (by omega) (by omega) h) ?_
          rintro _ w ⟨rfl, h⟩
          rw [e2]
          repeat' (first | (refine gO ?_; first | refine p_skip rfl ?_ | refine p_val rfl (gives_pure rfl) ?_ | (refine gB .add ?_; first | refine p_val rfl (g_add_i rfl rfl (by omega) (by omega)) ?_ | refine p_val rfl (g_add_u rfl rfl (by omega) (by omega)) ?_) | (refine gB _ ?_; first | refine p_cmp_t rfl rfl rfl rfl (by first | exact rfl | (simp only [cmpProp]; omega) | decide) ?_ | refine p_cmp_f rfl rfl rfl rfl (by first | exact rfl | (simp only [cmpProp]; omega) | decide) ?_ | (refine p_cmp rfl rfl rfl rfl (fun hc => ?_) (fun hc => ?_) <;> simp only [cmpProp] at hc))) | refine x_nil ?_ | (refine gX ?_; first | refine x_seq ?_ | refine x_ops ?_ | refine x_cond_t rfl ?_ | refine x_cond_f rfl ?_ | refine x_skip ?_))
          refine p_call rfl rfl (field_Put_spec z a n q (by omega) (by omega) (by omega) h) ?_
          rintro _ w ⟨rfl, h⟩
          rw [e3]
          repeat' (first | (refine gO ?_; first | refine p_skip rfl ?_ | refine p_val rfl (gives_pure rfl) ?_ | (refine gB .add ?_; first | refine p_val rfl (g_add_i rfl rfl (by omega) (by omega)) ?_ | refine p_val rfl (g_add_u rfl rfl (by omega) (by omega)) ?_) | (refine gB _ ?_; first | refine p_cmp_t rfl rfl rfl rfl (by first | exact rfl | (simp only [cmpProp]; omega) | decide) ?_ | refine p_cmp_f rfl rfl rfl rfl (by first | exact rfl | (simp only [cmpProp]; omega) | decide) ?_ | (refine p_cmp rfl rfl rfl rfl (fun hc => ?_) (fun hc => ?_) <;> simp only [cmpProp] at hc))) | refine x_nil ?_ | (refine gX ?_; first | refine x_seq ?_ | refine x_ops ?_ | refine x_cond_t rfl ?_ | refine x_cond_f rfl ?_ | refine x_skip ?_))
          refine p_call rfl rfl (field_Get_spec z a n (by omega) (by omega) h) ?_
          rintro _ w ⟨rfl, h⟩
          rw [e4]
          repeat' (first | (refine p_call rfl rfl (ref01_Right_spec _ _ h) ?_; rintro _ w ⟨⟨rfl, hp2⟩ | ⟨rfl, hp2⟩, h⟩) | contradiction | (refine gO ?_; first | refine p_skip rfl ?_ | refine p_val rfl (gives_pure rfl) ?_ | (refine gB .add ?_; first | refine p_val rfl (g_add_i rfl rfl (by omega) (by omega)) ?_ | refine p_val rfl (g_add_u rfl rfl (by omega) (by omega)) ?_) | (refine gB _ ?_; first | refine p_cmp_t rfl rfl rfl rfl (by first | exact rfl | (simp only [cmpProp]; omega) | decide) ?_ | refine p_cmp_f rfl rfl rfl rfl (by first | exact rfl | (simp only [cmpProp]; omega) | decide) ?_ | (refine p_cmp rfl rfl rfl rfl (fun hc => ?_) (fun hc => ?_) <;> simp only [cmpProp] at hc))) | refine x_nil ?_ | (refine gX ?_; first | refine x_seq ?_ | refine x_ops ?_ | refine x_cond_t rfl ?_ | refine x_cond_f rfl ?_ | refine x_skip ?_))
          all_goals exact x_ret' is_law01_FieldBack rfl ⟨rfl, h⟩
      · repeat' (first | (refine p_call rfl rfl (law01_awake_spec h) ?_; rintro _ w ⟨rfl, h⟩) | (refine gO ?_; first | refine p_skip rfl ?_ | refine p_val rfl (gives_pure rfl) ?_ | (refine gB .add ?_; first | refine p_val rfl (g_add_i rfl rfl (by omega) (by omega)) ?_ | refine p_val rfl (g_add_u rfl rfl (by omega) (by omega)) ?_) | (refine gB _ ?_; first | refine p_cmp_t rfl rfl rfl rfl (by first | exact rfl | (simp only [cmpProp]; omega) | decide) ?_ | refine p_cmp_f rfl rfl rfl rfl (by first | exact rfl | (simp only [cmpProp]; omega) | decide) ?_ | (refine p_cmp rfl rfl rfl rfl (fun hc => ?_) (fun hc => ?_) <;> simp only [cmpProp] at hc))) | refine x_nil ?_ | (refine gX ?_; first | refine x_seq ?_ | refine x_ops ?_ | refine x_cond_t rfl ?_ | refine x_cond_f rfl ?_ | refine x_skip ?_))
        refine p_call rfl rfl (field_Put_spec x a n y (by omega) (by omega) (by omega) h) ?_
        rintro _ w ⟨rfl, h⟩
        rw [e1]
        repeat' (first | (refine gO ?_; first | refine p_skip rfl ?_ | refine p_val rfl (gives_pure rfl) ?_ | (refine gB .add ?_; first | refine p_val rfl (g_add_i rfl rfl (by omega) (by omega)) ?_ | refine p_val rfl (g_add_u rfl rfl (by omega) (by omega)) ?_) | (refine gB _ ?_; first | refine p_cmp_t rfl rfl rfl rfl (by first | exact rfl | (simp only [cmpProp]; omega) | decide) ?_ | refine p_cmp_f rfl rfl rfl rfl (by first | exact rfl | (simp only [cmpProp]; omega) | decide) ?_ | (refine p_cmp rfl rfl rfl rfl (fun hc => ?_) (fun hc => ?_) <;> simp only [cmpProp] at hc))) | refine x_nil ?_ | (refine gX ?_; first | refine x_seq ?_ | refine x_ops ?_ | refine x_cond_t rfl ?_ | refine x_cond_f rfl ?_ | refine x_skip ?_))
        refine p_call rfl rfl (field_Get_spec x a n (by omega) (by omega) h) ?_
        rintro _ w ⟨rfl, h⟩
        rw [e2]
        repeat' (first | (refine gO ?_; first | refine p_skip rfl ?_ | refine p_val rfl (gives_pure rfl) ?_ | (refine gB .add ?_; first | refine p_val rfl (g_add_i rfl rfl (by omega) (by omega)) ?_ | refine p_val rfl (g_add_u rfl rfl (by omega) (by omega)) ?_) | (refine gB _ ?_; first | refine p_cmp_t rfl rfl rfl rfl (by first | exact rfl | (simp only [cmpProp]; omega) | decide) ?_ | refine p_cmp_f rfl rfl rfl rfl (by first | exact rfl | (simp only [cmpProp]; omega) | decide) ?_ | (refine p_cmp rfl rfl rfl rfl (fun hc => ?_) (fun hc => ?_) <;> simp only [cmpProp] at hc))) | refine x_nil ?_ | (refine gX ?_; first | refine x_seq ?_ | refine x_ops ?_ | refine x_cond_t rfl ?_ | refine x_cond_f rfl ?_ | refine x_skip ?_))
        refine p_call rfl rfl (field_Put_spec z a n q (by omega) (by omega) (by omega) h) ?_
        rintro _ w ⟨rfl, h⟩
        rw [e3]
        repeat' (first | (refine gO ?_; first | refine p_skip rfl ?_ | refine p_val rfl (gives_pure rfl) ?_ | (refine gB .add ?_; first | refine p_val rfl (g_add_i rfl rfl (by omega) (by omega)) ?_ | refine p_val rfl (g_add_u rfl rfl (by omega) (by omega)) ?_) | (refine gB _ ?_; first | refine p_cmp_t rfl rfl rfl rfl (by first | exact rfl | (simp only [cmpProp]; omega) | decide) ?_ | refine p_cmp_f rfl rfl rfl rfl (by first | exact rfl | (simp only [cmpProp]; omega) | decide) ?_ | (refine p_cmp rfl rfl rfl rfl (fun hc => ?_) (fun hc => ?_) <;> simp only [cmpProp] at hc))) | refine x_nil ?_ | (refine gX ?_; first | refine x_seq ?_ | refine x_ops ?_ | refine x_cond_t rfl ?_ | refine x_cond_f rfl ?_ | refine x_skip ?_))
        refine p_call rfl rfl (field_Get_spec z a n (by omega) (by omega) h) ?_
        rintro _ w ⟨rfl, h⟩
        rw [e4]
        repeat' (first | (refine p_call rfl rfl (ref01_Right_spec _ _ h) ?_; rintro _ w ⟨⟨rfl, hp2⟩ | ⟨rfl, hp2⟩, h⟩) | contradiction | (refine gO ?_; first | refine p_skip rfl ?_ | refine p_val rfl (gives_pure rfl) ?_ | (refine gB .add ?_; first | refine p_val rfl (g_add_i rfl rfl (by omega) (by omega)) ?_ | refine p_val rfl (g_add_u rfl rfl (by omega) (by omega)) ?_) | (refine gB _ ?_; first | refine p_cmp_t rfl rfl rfl rfl (by first | exact rfl | (simp only [cmpProp]; omega) | decide) ?_ | refine p_cmp_f rfl rfl rfl rfl (by first | exact rfl | (simp only [cmpProp]; omega) | decide) ?_ | (refine p_cmp rfl rfl rfl rfl (fun hc => ?_) (fun hc => ?_) <;> simp only [cmpProp] at hc))) | refine x_nil ?_ | (refine gX ?_; first | refine x_seq ?_ | refine x_ops ?_ | refine x_cond_t rfl ?_ | refine x_cond_f rfl ?_ | refine x_skip ?_))
        all_goals exact x_ret' is_law01_FieldBack rfl ⟨rfl, h⟩
  · have e1 : putV x at_ bits y = (0, 1) := by rw [putV, if_neg hr]
    repeat' (first | (refine p_call rfl rfl (law01_awake_spec h) ?_; rintro _ w ⟨rfl, h⟩) | (refine p_call rfl rfl (field_Put_spec _ _ _ _ (by omega) (by omega) (by omega) h) ?_; rintro _ w ⟨rfl, h⟩; rw [e1]) | (refine gO ?_; first | refine p_skip rfl ?_ | refine p_val rfl (gives_pure rfl) ?_ | (refine gB .add ?_; first | refine p_val rfl (g_add_i rfl rfl (by omega) (by omega)) ?_ | refine p_val rfl (g_add_u rfl rfl (by omega) (by omega)) ?_) | (refine gB _ ?_; first | refine p_cmp_t rfl rfl rfl rfl (by first | exact rfl | (simp only [cmpProp]; omega) | decide) ?_ | refine p_cmp_f rfl rfl rfl rfl (by first | exact rfl | (simp only [cmpProp]; omega) | decide) ?_ | (refine p_cmp rfl rfl rfl rfl (fun hc => ?_) (fun hc => ?_) <;> simp only [cmpProp] at hc))) | refine x_nil ?_ | (refine gX ?_; first | refine x_seq ?_ | refine x_ops ?_ | refine x_cond_t rfl ?_ | refine x_cond_f rfl ?_ | refine x_skip ?_))
    exact x_ret' is_law01_FieldBack rfl ⟨rfl, h⟩

theorem law01_FieldFlags_spec (x : Nat) (at_ : Int) (on : Bool) (hx : x < 18446744073709551616) (h : Sat S w G) :
    Ret Try.prog F.law01_FieldFlags #[.int .u64 x, .int .i64 at_, .bool on] w (fun v w' => v = .bool true ∧ Sat S w' G) := by
  refine ret_of is_law01_FieldFlags rfl ?_
  by_cases hr : 0 ≤ at_ ∧ at_ < 64
  · obtain ⟨a0, a1⟩ := hr
    obtain ⟨a, rfl⟩ := Int.eq_ofNat_of_zero_le a0
    have ha : a < 64 := by omega
    have hl := putN_lt (w := x) (a := a) (n := 1) (v := on.toNat) hx (by omega) (by cases on <;> decide)
    have e1 := set_in (on := on) hx ha
    have g1 := get_flag (x := x) ha
    have g2 := get_flag (x := putN x a 1 on.toNat) ha
    rw [set_get hx ha] at g2
    have sb := set_bits (on := on) hx ha
    have s0 : (bitsF 64 x.testBit).set a 0 = bitsF 64 (fun i => if i = a then false else x.testBit i) := bitsF_set 64 _ a false
    have s1 : (bitsF 64 (fun i => if i = a then false else x.testBit i)).set a 1 = bitsF 64 (fun i => if i = a then true else x.testBit i) := by
      have := bitsF_set 64 (fun i => if i = a then false else x.testBit i) a true
      refine this.trans (bitsF_congr (fun i _ => ?_))
      by_cases hi : i = a
      · rw [if_pos hi, if_pos hi]
      · rw [if_neg hi, if_neg hi, if_neg hi]
    repeat' (first | (refine p_call rfl rfl (law01_awake_spec h) ?_; rintro _ w ⟨rfl, h⟩) | (refine gO ?_; first | refine p_skip rfl ?_ | refine p_val rfl (gives_pure rfl) ?_ | (refine gB _ ?_; first | refine p_cmp_t rfl rfl rfl rfl (by first | exact rfl | (simp only [cmpProp]; omega) | decide) ?_ | refine p_cmp_f rfl rfl rfl rfl (by first | exact rfl | (simp only [cmpProp]; omega) | decide) ?_ | (refine p_cmp rfl rfl rfl rfl (fun hc => ?_) (fun hc => ?_) <;> simp only [cmpProp] at hc)) | (refine gL ?_; first | refine p_val rfl (g_ld rfl (h.cell (by repeat first | exact .here | apply Has.there) (by exact rfl))) ?_ | refine p_val rfl (g_lda rfl rfl (h.at (by repeat first | exact .here | apply Has.there))) ?_) | refine p_val rfl (g_idx rfl rfl (by omega) (by omega)) ?_) | refine x_nil ?_ | (refine gX ?_; first | refine x_seq ?_ | refine x_ops ?_ | refine x_cond_t rfl ?_ | refine x_cond_f rfl ?_ | refine x_skip ?_))
    refine p_call rfl rfl (field_Set_spec x a on (by omega) (by omega) h) ?_
    rintro _ w ⟨rfl, h⟩
    rw [e1]
    repeat' (first | (refine gO ?_; first | refine p_skip rfl ?_ | refine p_val rfl (gives_pure rfl) ?_ | (refine gB _ ?_; first | refine p_cmp_t rfl rfl rfl rfl (by first | exact rfl | (simp only [cmpProp]; omega) | decide) ?_ | refine p_cmp_f rfl rfl rfl rfl (by first | exact rfl | (simp only [cmpProp]; omega) | decide) ?_ | (refine p_cmp rfl rfl rfl rfl (fun hc => ?_) (fun hc => ?_) <;> simp only [cmpProp] at hc)) | (refine gL ?_; first | refine p_val rfl (g_ld rfl (h.cell (by repeat first | exact .here | apply Has.there) (by exact rfl))) ?_ | refine p_val rfl (g_lda rfl rfl (h.at (by repeat first | exact .here | apply Has.there))) ?_) | refine p_val rfl (g_idx rfl rfl (by omega) (by omega)) ?_) | refine x_nil ?_ | (refine gX ?_; first | refine x_seq ?_ | refine x_ops ?_ | refine x_cond_t rfl ?_ | refine x_cond_f rfl ?_ | refine x_skip ?_))
    refine p_call rfl rfl (ref01_Bits_spec x hx h) ?_
    intro v w h
    obtain ⟨b, cap, rfl⟩ := ownS_shape 64 h .here (by rw [ints_length, bitsF_length])
    repeat' (first | refine p_val rfl (g_ldI (i := a) rfl (ownS_rd h .here) (by omega) (by rw [bitsF_length]; omega)) ?_ | (refine gO ?_; first | refine p_skip rfl ?_ | refine p_val rfl (gives_pure rfl) ?_ | (refine gB _ ?_; first | refine p_cmp_t rfl rfl rfl rfl (by first | exact rfl | (simp only [cmpProp]; omega) | decide) ?_ | refine p_cmp_f rfl rfl rfl rfl (by first | exact rfl | (simp only [cmpProp]; omega) | decide) ?_ | (refine p_cmp rfl rfl rfl rfl (fun hc => ?_) (fun hc => ?_) <;> simp only [cmpProp] at hc)) | (refine gL ?_; first | refine p_val rfl (g_ld rfl (h.cell (by repeat first | exact .here | apply Has.there) (by exact rfl))) ?_ | refine p_val rfl (g_lda rfl rfl (h.at (by repeat first | exact .here | apply Has.there))) ?_) | refine p_val rfl (g_idx rfl rfl (by omega) (by omega)) ?_) | refine x_nil ?_ | (refine gX ?_; first | refine x_seq ?_ | refine x_ops ?_ | refine x_cond_t rfl ?_ | refine x_cond_f rfl ?_ | refine x_skip ?_))
    all_goals rw [bitsF_getD ha] at hc
    all_goals refine p_do rfl (d_stI (i := a) rfl rfl h (by omega) (by rw [bitsF_length]; omega)) ?_
    all_goals rintro _ w ⟨rfl, h⟩
    all_goals rw [s0] at h
    all_goals cases on
    all_goals
      repeat' (first | (refine p_do rfl (d_stI (i := a) rfl rfl h (by omega) (by rw [bitsF_length]; omega)) ?_; rintro _ w ⟨rfl, h⟩; rw [s1] at h) | (refine gO ?_; first | refine p_skip rfl ?_ | refine p_val rfl (gives_pure rfl) ?_ | (refine gB _ ?_; first | refine p_cmp_t rfl rfl rfl rfl (by first | exact rfl | (simp only [cmpProp]; omega) | decide) ?_ | refine p_cmp_f rfl rfl rfl rfl (by first | exact rfl | (simp only [cmpProp]; omega) | decide) ?_ | (refine p_cmp rfl rfl rfl rfl (fun hc => ?_) (fun hc => ?_) <;> simp only [cmpProp] at hc)) | (refine gL ?_; first | refine p_val rfl (g_ld rfl (h.cell (by repeat first | exact .here | apply Has.there) (by exact rfl))) ?_ | refine p_val rfl (g_lda rfl rfl (h.at (by repeat first | exact .here | apply Has.there))) ?_) | refine p_val rfl (g_idx rfl rfl (by omega) (by omega)) ?_) | refine x_nil ?_ | (refine gX ?_; first | refine x_seq ?_ | refine x_ops ?_ | refine x_cond_t rfl ?_ | refine x_cond_f rfl ?_ | refine x_skip ?_))
    all_goals refine p_call rfl rfl (field_Flag_spec x a (by omega) (by omega) h) ?_
    all_goals rintro _ w ⟨⟨rfl, hp⟩ | ⟨rfl, hp⟩, h⟩
    all_goals try (exfalso; omega)
    all_goals
      repeat' (first | (refine gO ?_; first | refine p_skip rfl ?_ | refine p_val rfl (gives_pure rfl) ?_ | (refine gB _ ?_; first | refine p_cmp_t rfl rfl rfl rfl (by first | exact rfl | (simp only [cmpProp]; omega) | decide) ?_ | refine p_cmp_f rfl rfl rfl rfl (by first | exact rfl | (simp only [cmpProp]; omega) | decide) ?_ | (refine p_cmp rfl rfl rfl rfl (fun hc => ?_) (fun hc => ?_) <;> simp only [cmpProp] at hc)) | (refine gL ?_; first | refine p_val rfl (g_ld rfl (h.cell (by repeat first | exact .here | apply Has.there) (by exact rfl))) ?_ | refine p_val rfl (g_lda rfl rfl (h.at (by repeat first | exact .here | apply Has.there))) ?_) | refine p_val rfl (g_idx rfl rfl (by omega) (by omega)) ?_) | refine x_nil ?_ | (refine gX ?_; first | refine x_seq ?_ | refine x_ops ?_ | refine x_cond_t rfl ?_ | refine x_cond_f rfl ?_ | refine x_skip ?_))
    all_goals refine p_call rfl rfl (ref01_Word_spec _ _ (bitsF_is _ _) (by rw [bitsF_length]; omega) (fun w h => ownS_rd h .here) h) ?_
    all_goals rintro _ w ⟨rfl, h⟩
    all_goals rw [sb]
    all_goals
      repeat' (first | (refine gO ?_; first | refine p_skip rfl ?_ | refine p_val rfl (gives_pure rfl) ?_ | (refine gB _ ?_; first | refine p_cmp_t rfl rfl rfl rfl (by first | exact rfl | (simp only [cmpProp]; omega) | decide) ?_ | refine p_cmp_f rfl rfl rfl rfl (by first | exact rfl | (simp only [cmpProp]; omega) | decide) ?_ | (refine p_cmp rfl rfl rfl rfl (fun hc => ?_) (fun hc => ?_) <;> simp only [cmpProp] at hc)) | (refine gL ?_; first | refine p_val rfl (g_ld rfl (h.cell (by repeat first | exact .here | apply Has.there) (by exact rfl))) ?_ | refine p_val rfl (g_lda rfl rfl (h.at (by repeat first | exact .here | apply Has.there))) ?_) | refine p_val rfl (g_idx rfl rfl (by omega) (by omega)) ?_) | refine x_nil ?_ | (refine gX ?_; first | refine x_seq ?_ | refine x_ops ?_ | refine x_cond_t rfl ?_ | refine x_cond_f rfl ?_ | refine x_skip ?_))
    all_goals refine p_call rfl rfl (field_Flag_spec (putN x a 1 _ : Nat) a (by omega) (by omega) h) ?_
    all_goals rintro _ w ⟨⟨rfl, hp2⟩ | ⟨rfl, hp2⟩, h⟩
    all_goals try (exfalso; rw [g2] at hp2; simp [bit] at hp2; done)
    all_goals
      repeat' (first | (refine gO ?_; first | refine p_skip rfl ?_ | refine p_val rfl (gives_pure rfl) ?_ | (refine gB _ ?_; first | refine p_cmp_t rfl rfl rfl rfl (by first | exact rfl | (simp only [cmpProp]; omega) | decide) ?_ | refine p_cmp_f rfl rfl rfl rfl (by first | exact rfl | (simp only [cmpProp]; omega) | decide) ?_ | (refine p_cmp rfl rfl rfl rfl (fun hc => ?_) (fun hc => ?_) <;> simp only [cmpProp] at hc)) | (refine gL ?_; first | refine p_val rfl (g_ld rfl (h.cell (by repeat first | exact .here | apply Has.there) (by exact rfl))) ?_ | refine p_val rfl (g_lda rfl rfl (h.at (by repeat first | exact .here | apply Has.there))) ?_) | refine p_val rfl (g_idx rfl rfl (by omega) (by omega)) ?_) | refine x_nil ?_ | (refine gX ?_; first | refine x_seq ?_ | refine x_ops ?_ | refine x_cond_t rfl ?_ | refine x_cond_f rfl ?_ | refine x_skip ?_))
    all_goals exact x_ret' is_law01_FieldFlags rfl ⟨rfl, h.drop⟩
  · have e1 := set_out (x := x) (on := on) hr
    have e2 := get_out (x := x) hr
    repeat' (first | (refine p_call rfl rfl (law01_awake_spec h) ?_; rintro _ w ⟨rfl, h⟩) | (refine p_call rfl rfl (field_Set_spec x at_ on (by omega) (by omega) h) ?_; rintro _ w ⟨rfl, h⟩; rw [e1]) | (refine p_call rfl rfl (field_Flag_spec x at_ (by omega) (by omega) h) ?_; rintro _ w ⟨⟨rfl, hp⟩ | ⟨rfl, hp⟩, h⟩) | (exfalso; omega) | (refine gO ?_; first | refine p_skip rfl ?_ | refine p_val rfl (gives_pure rfl) ?_ | (refine gB _ ?_; first | refine p_cmp_t rfl rfl rfl rfl (by first | exact rfl | (simp only [cmpProp]; omega) | decide) ?_ | refine p_cmp_f rfl rfl rfl rfl (by first | exact rfl | (simp only [cmpProp]; omega) | decide) ?_ | (refine p_cmp rfl rfl rfl rfl (fun hc => ?_) (fun hc => ?_) <;> simp only [cmpProp] at hc)) | (refine gL ?_; first | refine p_val rfl (g_ld rfl (h.cell (by repeat first | exact .here | apply Has.there) (by exact rfl))) ?_ | refine p_val rfl (g_lda rfl rfl (h.at (by repeat first | exact .here | apply Has.there))) ?_) | refine p_val rfl (g_idx rfl rfl (by omega) (by omega)) ?_) | refine x_nil ?_ | (refine gX ?_; first | refine x_seq ?_ | refine x_ops ?_ | refine x_cond_t rfl ?_ | refine x_cond_f rfl ?_ | refine x_skip ?_))
    all_goals exact x_ret' is_law01_FieldFlags rfl ⟨rfl, h⟩
end
theorem FieldGets_law (a0 a1 a2 a3 : Int) (W : World) (w0 : (Lit.int .u64 a0).wf = true) (_w1 : (Lit.int .i64 a1).wf = true) (_w2 : (Lit.int .i64 a2).wf = true) (w3 : (Lit.int .u64 a3).wf = true) :
    Ret Try.prog F.law01_FieldGets #[.int .u64 a0, .int .i64 a1, .int .i64 a2, .int .u64 a3] W (fun v w' => v = .bool true ∧ Sat ⟨W.heap.size, W⟩ w' []) := by
  have b0 := wf_u64 w0
  have b3 := wf_u64 w3
  obtain ⟨x, rfl⟩ := Int.eq_ofNat_of_zero_le b0.1
  obtain ⟨y, rfl⟩ := Int.eq_ofNat_of_zero_le b3.1
  exact law01_FieldGets_spec x y a1 a2 (by omega) (by omega) (Sat.begin W)
theorem FieldBack_law (a0 a1 a2 a3 a4 a5 : Int) (W : World) (w0 : (Lit.int .u64 a0).wf = true) (_w1 : (Lit.int .i64 a1).wf = true) (_w2 : (Lit.int .i64 a2).wf = true) (w3 : (Lit.int .u64 a3).wf = true) (_w4 : (Lit.int .i64 a4).wf = true) (_w5 : (Lit.int .i64 a5).wf = true) :
    Ret Try.prog F.law01_FieldBack #[.int .u64 a0, .int .i64 a1, .int .i64 a2, .int .u64 a3, .int .i64 a4, .int .i64 a5] W (fun v w' => v = .bool true ∧ Sat ⟨W.heap.size, W⟩ w' []) := by
  have b0 := wf_u64 w0
  have b3 := wf_u64 w3
  obtain ⟨x, rfl⟩ := Int.eq_ofNat_of_zero_le b0.1
  obtain ⟨y, rfl⟩ := Int.eq_ofNat_of_zero_le b3.1
  exact law01_FieldBack_spec x y a1 a2 a4 a5 (by omega) (by omega) (Sat.begin W)
theorem FieldFlags_law (a0 a1 : Int) (a2 : Bool) (W : World) (w0 : (Lit.int .u64 a0).wf = true) (_w1 : (Lit.int .i64 a1).wf = true) :
    Ret Try.prog F.law01_FieldFlags #[.int .u64 a0, .int .i64 a1, .bool a2] W (fun v w' => v = .bool true ∧ Sat ⟨W.heap.size, W⟩ w' []) := by
  have b0 := wf_u64 w0
  obtain ⟨x, rfl⟩ := Int.eq_ofNat_of_zero_le b0.1
  exact law01_FieldFlags_spec x a1 a2 (by omega) (Sat.begin W)
end Go.Proofs.Ytjlpjhbmfakpjaa
