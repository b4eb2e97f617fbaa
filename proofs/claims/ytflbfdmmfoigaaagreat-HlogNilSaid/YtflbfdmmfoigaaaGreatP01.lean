/- Layer 1 (field): what each function computes. -/
import Derived.Test.YtflbfdmmfoigaaaGreatHxS
import Derived.Test.YtflbfdmmfoigaaaGreatIr0
import Derived.Test.YtflbfdmmfoigaaaGreatIr1
import Derived.Test.YtflbfdmmfoigaaaGreatL01b
namespace Go.Proofs.YtflbfdmmfoigaaaGreat
open Go Go.HX
attribute [local irreducible] Ret XRun XOps XDr XOne Does Gives
set_option maxRecDepth 4000
set_option maxHeartbeats 1000000
section
variable {S : SP} {w : World} {G : List HProp}

theorem field_Right_spec (at_ bits : Int) (h : Sat S w G) :
    Ret Tryz.prog F.field_Right #[.int .i64 at_, .int .i64 bits] w (fun v w' => BoolIs v (fRight at_ bits) ∧ Sat S w' G) := by
  refine ret_of is_field_Right rfl ?_
  repeat' (first | refine stPs ?_ | (refine p_cmp rfl rfl rfl rfl (fun hc => ?_) (fun hc => ?_) <;> simp only [cmpProp] at hc) | fail)
  all_goals refine x_ret' is_field_Right rfl ⟨?_, h⟩
  all_goals first | exact .t (by omega) | exact .f (by omega)

theorem field_Most_spec (bits : Int) (h : Sat S w G) :
    Ret Tryz.prog F.field_Most #[.int .i64 bits] w (fun v w' => v = .int .u64 (mostZ bits) ∧ Sat S w' G) := by
  refine ret_of is_field_Most rfl ?_
  by_cases h1 : bits < 1
  · repeat' (first | refine stPs ?_ | (refine p_cmp rfl rfl rfl rfl (fun hc => ?_) (fun hc => ?_) <;> simp only [cmpProp] at hc) | fail)
    exact x_ret' is_field_Most rfl ⟨by rw [mostZ, if_pos h1]; rfl, h⟩
  · by_cases h2 : 64 ≤ bits
    · repeat' (first | refine stPs ?_ | (refine p_cmp rfl rfl rfl rfl (fun hc => ?_) (fun hc => ?_) <;> simp only [cmpProp] at hc) | fail)
      exact x_ret' is_field_Most rfl ⟨by rw [mostZ, if_neg h1, if_pos h2]; rfl, h⟩
    · have e : shl64 1 bits - 1 = mostZ bits := by
        have hb := mostZ_bounds bits
        have hm := mostZ_in (bits := bits) (by omega) (by omega)
        obtain ⟨n, rfl⟩ := Int.eq_ofNat_of_zero_le (show 0 ≤ bits by omega)
        have hp := pow_lt_pow64 (n := n) (by omega)
        have hc := cast_pow2 n
        rw [shl64_small (by omega) (by omega) (by omega) (by rw [Int.toNat_natCast]; omega), hm]; omega
      have hb := mostZ_bounds bits
      repeat' (first | refine stPs ?_ | (refine p_cmp rfl rfl rfl rfl (fun hc => ?_) (fun hc => ?_) <;> simp only [cmpProp] at hc) | fail)
      exact x_ret' is_field_Most rfl ⟨by rw [e]; rfl, h⟩

theorem field_Get_spec (x at_ bits : Int) (h0 : 0 ≤ x) (h1 : x ≤ 18446744073709551615) (h : Sat S w G) :
    Ret Tryz.prog F.field_Get #[.int .u64 x, .int .i64 at_, .int .i64 bits] w (fun v w' => v = .int .u64 (getV x at_ bits) ∧ Sat S w' G) := by
  refine ret_of is_field_Get rfl ?_
  have hb := mostZ_bounds bits
  repeat' (first | (refine p_call rfl rfl (field_Right_spec _ _ h) ?_; rintro _ _ ⟨⟨rfl, hp⟩ | ⟨rfl, hp⟩, h⟩) | refine stP ?_ | (refine x_drawn rfl ?_; have h := h.drew) | refine x_drawn rfl ?_ | fail)
  · have hs0 : 0 ≤ shr64 x at_ := by rw [shr64_small (by omega)]; exact Int.ediv_nonneg h0 (Int.pow_nonneg (by decide))
    have hs1 : shr64 x at_ ≤ 18446744073709551615 := by
      rw [shr64_small (by omega)]
      exact Int.le_trans (Int.ediv_le_self _ h0) h1
    refine r_call rfl rfl rfl (field_Most_spec _ h) ?_
    rintro _ _ ⟨rfl, h⟩
    refine ⟨now_nil, ?_⟩
    repeat' (first | refine stPs ?_ | (refine x_drawn rfl ?_; have h := h.drew) | refine x_drawn rfl ?_ | fail)
    refine x_ret' is_field_Get rfl ⟨?_, h⟩
    show Value.int .u64 _ = _
    rw [get_and h0 hp, getV, if_pos hp]
  · exact x_ret' is_field_Get rfl ⟨by rw [getV, if_neg hp]; rfl, h⟩



end
end Go.Proofs.YtflbfdmmfoigaaaGreat
