/- Layer 1 (field): what each function computes. -/
import Derived.Test.YtjoicobfjpaepaaHxS
import Derived.Test.YtjoicobfjpaepaaIr0
import Derived.Test.YtjoicobfjpaepaaIr1
import Derived.Test.YtjoicobfjpaepaaL01b
namespace Go.Proofs.Ytjoicobfjpaepaa
open Go Go.HX
attribute [local irreducible] Ret XRun XOps XDr XOne Does Gives
set_option maxRecDepth 4000
set_option maxHeartbeats 1000000
section
variable {S : SP} {w : World} {G : List HProp}

theorem field_Right_spec (at_ bits : Int) (h : Sat S w G) :
    Ret Try.prog F.field_Right #[.int .i64 at_, .int .i64 bits] w (fun v w' => BoolIs v (fRight at_ bits) ∧ Sat S w' G) := by
  refine ret_of is_field_Right rfl ?_
  repeat' (first | refine stPs ?_ | (refine p_cmp rfl rfl rfl rfl (fun hc => ?_) (fun hc => ?_) <;> simp only [cmpProp] at hc) | fail)
  all_goals refine x_ret' is_field_Right rfl ⟨?_, h⟩
  all_goals first | exact .t (by omega) | exact .f (by omega)

theorem field_Most_spec (bits : Int) (h : Sat S w G) :
    Ret Try.prog F.field_Most #[.int .i64 bits] w (fun v w' => v = .int .u64 (mostZ bits) ∧ Sat S w' G) := by
  refine ret_of is_field_Most rfl ?_
  by_cases h1 : bits < 1
  · repeat' (first | refine stPs ?_ | (refine p_cmp rfl rfl rfl rfl (fun hc => ?_) (fun hc => ?_) <;> simp only [cmpProp] at hc) | fail)
    exact x_ret' is_field_Most rfl ⟨by rw [mostZ, if_pos h1]; rfl, h⟩
  · by_cases h2 : 64 ≤ bits
    · repeat' (first | refine stPs ?_ | (refine p_cmp rfl rfl rfl rfl (fun hc => ?_) (fun hc => ?_) <;> simp only [cmpProp] at hc) | fail)
      exact x_ret' is_field_Most rfl ⟨by rw [mostZ, if_neg h1, if_pos h2]; rfl, h⟩
    · have e : shl64 1 bits - 1 = mostZ bits := by
        have hb := mostZ_bounds bits
        have hm := mostZ_in (bits := bits) (by omega) (by omega)
        obtain ⟨n, rfl⟩ := Int.eq_ofNat_of_zero_le (show 0 ≤ bits by omega)
        have hp := pow_lt_pow64 (n := n) (by omega)
        have hc := cast_pow2 n
        rw [shl64_small (by omega) (by omega) (by omega) (by rw [Int.toNat_natCast]; omega), hm]; omega
      have hb := mostZ_bounds bits
      repeat' (first | refine stPs ?_ | (refine p_cmp rfl rfl rfl rfl (fun hc => ?_) (fun hc => ?_) <;> simp only [cmpProp] at hc) | fail)
      exact x_ret' is_field_Most rfl ⟨by rw [e]; rfl, h⟩

theorem field_Get_spec (x at_ bits : Int) (h0 : 0 ≤ x) (h1 : x ≤ 18446744073709551615) (h : Sat S w G) :
    Ret Try.prog F.field_Get #[.int .u64 x, .int .i64 at_, .int .i64 bits] w (fun v w' => v = .int .u64 (getV x at_ bits) ∧ Sat S w' G) := by
  refine ret_of is_field_Get rfl ?_
  have hb := mostZ_bounds bits
  repeat' (first | (refine p_call rfl rfl (field_Right_spec _ _ h) ?_; rintro _ _ ⟨⟨rfl, hp⟩ | ⟨rfl, hp⟩, h⟩) | refine stP ?_ | (refine x_drawn rfl ?_; have h := h.drew) | refine x_drawn rfl ?_ | fail)
  · have hs0 : 0 ≤ shr64 x at_ := by rw [shr64_small (by omega)]; exact Int.ediv_nonneg h0 (Int.pow_nonneg (by decide))
    have hs1 : shr64 x at_ ≤ 18446744073709551615 := by
      rw [shr64_small (by omega)]
      exact Int.le_trans (Int.ediv_le_self _ h0) h1
    refine r_call rfl rfl rfl (field_Most_spec _ h) ?_
    rintro _ _ ⟨rfl, h⟩
    refine ⟨now_nil, ?_⟩
    repeat' (first | refine stPs ?_ | (refine x_drawn rfl ?_; have h := h.drew) | refine x_drawn rfl ?_ | fail)
    refine x_ret' is_field_Get rfl ⟨?_, h⟩
    show Value.int .u64 _ = _
    rw [get_and h0 hp, getV, if_pos hp]
  · exact x_ret' is_field_Get rfl ⟨by rw [getV, if_neg hp]; rfl, h⟩

theorem field_Put_spec (x at_ bits y : Int) (h0 : 0 ≤ x) (h1 : x ≤ 18446744073709551615) (y0 : 0 ≤ y) (h : Sat S w G) :
    Ret Try.prog F.field_Put #[.int .u64 x, .int .i64 at_, .int .i64 bits, .int .u64 y] w (fun v w' => v = .tuple #[.int .u64 (putV x at_ bits y).1, .int .i64 (putV x at_ bits y).2] ∧ Sat S w' G) := by
  refine ret_of is_field_Put rfl ?_
  have hb := mostZ_bounds bits
  repeat' (first | (refine p_call rfl rfl (field_Right_spec _ _ h) ?_; rintro _ _ ⟨⟨rfl, hp⟩ | ⟨rfl, hp⟩, h⟩) | (refine p_call rfl rfl (field_Most_spec _ h) ?_; rintro _ _ ⟨rfl, h⟩) | refine stP ?_ | (refine p_cmp rfl rfl rfl rfl (fun hc => ?_) (fun hc => ?_) <;> simp only [cmpProp] at hc) | (refine r_cmp rfl rfl rfl rfl rfl (fun hc => ?_) (fun hc => ?_) <;> simp only [cmpProp] at hc) | (refine x_drawn rfl ?_; have h := h.drew) | refine x_drawn rfl ?_ | fail)
  · exact x_ret' is_field_Put rfl ⟨by rw [putV, if_pos hp, if_pos hc]; rfl, h⟩
  · refine r_call rfl rfl rfl (field_Most_spec _ h) ?_
    rintro _ _ ⟨rfl, h⟩
    refine ⟨now_nil, ?_⟩
    have hs : ∀ z, 0 ≤ shl64 z at_ ∧ shl64 z at_ ≤ 18446744073709551615 := fun z => by unfold shl64; omega
    have hs1 := hs (mostZ bits)
    have hs2 := hs y
    have hn : x.toNat &&& (18446744073709551615 - (shl64 (mostZ bits) at_).toNat) ≤ x.toNat := Nat.and_le_left
    have hn2 : (((x.toNat &&& (18446744073709551615 - (shl64 (mostZ bits) at_).toNat) : Nat) : Int)) ≤ 18446744073709551615 := by omega
    clear hn
    repeat' (first | refine stPs ?_ | (refine p_cmp rfl rfl rfl rfl (fun hc => ?_) (fun hc => ?_) <;> simp only [cmpProp] at hc) | (refine r_cmp rfl rfl rfl rfl rfl (fun hc => ?_) (fun hc => ?_) <;> simp only [cmpProp] at hc) | (refine x_drawn rfl ?_; have h := h.drew) | refine x_drawn rfl ?_ | fail)
    refine x_ret' is_field_Put rfl ⟨?_, h⟩
    show Value.tuple #[Value.int .u64 _, _] = _
    rw [putV, if_pos hp, if_neg hc, put_or h0 h1 hp y0 (by omega)]
  · exact x_ret' is_field_Put rfl ⟨by rw [putV, if_neg hp]; rfl, h⟩

theorem field_Flag_spec (x at_ : Int) (h0 : 0 ≤ x) (h1 : x ≤ 18446744073709551615) (h : Sat S w G) :
    Ret Try.prog F.field_Flag #[.int .u64 x, .int .i64 at_] w (fun v w' => BoolIs v (getV x at_ 1 = 1) ∧ Sat S w' G) := by
  refine ret_of is_field_Flag rfl ?_
  repeat' (first | (refine p_call rfl rfl (field_Get_spec _ _ _ h0 h1 h) ?_; rintro _ _ ⟨rfl, h⟩) | refine stP ?_ | (refine p_cmp rfl rfl rfl rfl (fun hc => ?_) (fun hc => ?_) <;> simp only [cmpProp] at hc) | fail)
  all_goals refine x_ret' is_field_Flag rfl ⟨?_, h⟩
  all_goals first | exact .t (by omega) | exact .f (by omega)

theorem field_Set_spec (x at_ : Int) (on : Bool) (h0 : 0 ≤ x) (h1 : x ≤ 18446744073709551615) (h : Sat S w G) :
    Ret Try.prog F.field_Set #[.int .u64 x, .int .i64 at_, .bool on] w (fun v w' => v = .int .u64 (setZ x at_ on) ∧ Sat S w' G) := by
  refine ret_of is_field_Set rfl ?_
  cases on
  all_goals
    repeat' (first | (refine p_call rfl rfl (field_Put_spec _ _ _ _ h0 h1 (by omega) h) ?_; rintro _ _ ⟨rfl, h⟩) | refine stP ?_ | (refine p_cmp rfl rfl rfl rfl (fun hc => ?_) (fun hc => ?_) <;> simp only [cmpProp] at hc) | fail)
  all_goals refine x_ret' is_field_Set rfl ⟨?_, h⟩
  all_goals simp only [setZ, Bool.false_eq_true, if_true, if_false]
  all_goals first | (rw [if_pos (by omega)]; rfl) | (rw [if_neg (by omega)]; rfl)

end
end Go.Proofs.Ytjoicobfjpaepaa
