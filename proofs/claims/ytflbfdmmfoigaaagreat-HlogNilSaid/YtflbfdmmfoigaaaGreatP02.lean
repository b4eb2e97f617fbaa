/- Layer 2 (place): what each function computes. -/
import Derived.Test.YtflbfdmmfoigaaaGreatHxS
import Derived.Test.YtflbfdmmfoigaaaGreatP01
namespace Go.Proofs.YtflbfdmmfoigaaaGreat
open Go Go.HX
attribute [local irreducible] Ret XRun XOps XDr XOne Does Gives
set_option maxRecDepth 4000
set_option maxHeartbeats 1000000

@[irreducible] def sizeZ (bits : Int) : Int := if bits = 5 then 32 else if bits = 6 then 64 else if bits = 7 then 128 else if bits = 8 then 256 else if bits = 9 then 512 else 0
@[irreducible] def pageZ (bits a : Int) : Int := if 0 < sizeZ bits ∧ a ≤ 281474976710655 then a / sizeZ bits else 0
@[irreducible] def offZ (bits a : Int) : Int := if 0 < sizeZ bits ∧ a ≤ 281474976710655 then a % sizeZ bits else 0
@[irreducible] def roomZ (bits a : Int) : Int := if 0 < sizeZ bits ∧ a ≤ 281474976710655 then sizeZ bits - a % sizeZ bits else 0
@[irreducible] def addZ (a n : Int) : Int × Int := if 281474976710655 < a ∨ n < 0 then (0, 1) else if 281474976710655 - a < n then (0, 13) else (a + n, 0)
@[irreducible] def ofZ (bits page off : Int) : Int × Int := if ¬ 0 < sizeZ bits ∨ page < 0 ∨ off < 0 ∨ sizeZ bits ≤ off then (0, 1) else if 281474976710655 / sizeZ bits < page then (0, 13) else (page * sizeZ bits + off, 0)
theorem size_cases (bits : Int) : (¬ (5 ≤ bits ∧ bits ≤ 9) ∧ sizeZ bits = 0) ∨ (bits = 5 ∧ sizeZ bits = 32) ∨ (bits = 6 ∧ sizeZ bits = 64) ∨ (bits = 7 ∧ sizeZ bits = 128) ∨ (bits = 8 ∧ sizeZ bits = 256) ∨ (bits = 9 ∧ sizeZ bits = 512) := by
  unfold sizeZ
  by_cases h5 : bits = 5
  · rw [if_pos h5]; omega
  · by_cases h6 : bits = 6
    · rw [if_neg h5, if_pos h6]; omega
    · by_cases h7 : bits = 7
      · rw [if_neg h5, if_neg h6, if_pos h7]; omega
      · by_cases h8 : bits = 8
        · rw [if_neg h5, if_neg h6, if_neg h7, if_pos h8]; omega
        · by_cases h9 : bits = 9
          · rw [if_neg h5, if_neg h6, if_neg h7, if_neg h8, if_pos h9]; omega
          · rw [if_neg h5, if_neg h6, if_neg h7, if_neg h8, if_neg h9]; omega
theorem getV_split {a bits : Int} (h0 : 0 ≤ a) (h1 : a ≤ 281474976710655) : (5 ≤ bits ∧ bits ≤ 9) → getV a bits (48 - bits) = a / sizeZ bits ∧ getV a 0 bits = a % sizeZ bits := by
  intro hb
  have hr1 : fRight bits (48 - bits) := ⟨by omega, by omega, by omega, by omega⟩
  have hr2 : fRight 0 bits := ⟨by omega, by omega, by omega, by omega⟩
  rw [getV, if_pos hr1, getV, if_pos hr2]
  unfold getZ
  rcases size_cases bits with h | ⟨rfl, h⟩ | ⟨rfl, h⟩ | ⟨rfl, h⟩ | ⟨rfl, h⟩ | ⟨rfl, h⟩
  · omega
  all_goals
    rw [h]
    simp
    omega
theorem shr_most {bits : Int} (hm : 5 ≤ bits ∧ bits ≤ 9) : shr64 281474976710655 bits = 281474976710655 / sizeZ bits := by
  rcases size_cases bits with h | ⟨rfl, h⟩ | ⟨rfl, h⟩ | ⟨rfl, h⟩ | ⟨rfl, h⟩ | ⟨rfl, h⟩
  · omega
  all_goals
    rw [h]
    rfl
theorem most_le (bits : Int) : 281474976710655 / sizeZ bits ≤ 281474976710655 := by
  rcases size_cases bits with ⟨_, h⟩ | ⟨rfl, h⟩ | ⟨rfl, h⟩ | ⟨rfl, h⟩ | ⟨rfl, h⟩ | ⟨rfl, h⟩
  all_goals
    rw [h]
    decide
theorem or_low {x y : Int} (k : Nat) (x0 : 0 ≤ x) (y0 : 0 ≤ y) (y1 : y < 2 ^ k) : (((x * 2 ^ k).toNat ||| y.toNat : Nat) : Int) = x * 2 ^ k + y := by
  obtain ⟨x, rfl⟩ := Int.eq_ofNat_of_zero_le x0
  obtain ⟨y, rfl⟩ := Int.eq_ofNat_of_zero_le y0
  have hy : y < 2 ^ k := by have := cast_pow2 k; omega
  have := Nat.two_pow_add_eq_or_of_lt hy x
  have e : ((x : Int) * 2 ^ k).toNat = 2 ^ k * x := by rw [← cast_pow2, Nat.mul_comm]; omega
  rw [e, Int.toNat_natCast, ← this, ← cast_pow2]
  simp [Int.mul_comm]
theorem of_or {bits page off : Int} (hm : 5 ≤ bits ∧ bits ≤ 9) (p0 : 0 ≤ page) (p1 : page ≤ 281474976710655 / sizeZ bits) (o0 : 0 ≤ off) (o1 : off < sizeZ bits) :
    shl64 page bits = page * sizeZ bits ∧ (((page * sizeZ bits).toNat ||| off.toNat : Nat) : Int) = page * sizeZ bits + off ∧ 0 ≤ page * sizeZ bits ∧ page * sizeZ bits ≤ 281474976710655 := by
  rcases size_cases bits with h | ⟨rfl, h⟩ | ⟨rfl, h⟩ | ⟨rfl, h⟩ | ⟨rfl, h⟩ | ⟨rfl, h⟩
  · omega
  all_goals
    rw [h] at p1 o1 ⊢
    refine ⟨?_, ?_, by omega, by omega⟩
    · unfold shl64
      simp
      omega
  · exact or_low 5 p0 o0 o1
  · exact or_low 6 p0 o0 o1
  · exact or_low 7 p0 o0 o1
  · exact or_low 8 p0 o0 o1
  · exact or_low 9 p0 o0 o1
section
variable {S : SP} {w : World} {G : List HProp}

theorem place_May_spec (bits : Int) (h : Sat S w G) :
    Ret Tryz.prog F.place_May #[.int .i64 bits] w (fun v w' => BoolIs v (5 ≤ bits ∧ bits ≤ 9) ∧ Sat S w' G) := by
  refine ret_of is_place_May rfl ?_
  repeat' (first | refine stPs ?_ | (refine p_cmp rfl rfl rfl rfl (fun hc => ?_) (fun hc => ?_) <;> simp only [cmpProp] at hc) | fail)
  all_goals refine x_ret' is_place_May rfl ⟨?_, h⟩
  all_goals first | exact .t (by omega) | exact .f (by omega)


theorem place_Size_spec (bits : Int) (h : Sat S w G) :
    Ret Tryz.prog F.place_Size #[.int .i64 bits] w (fun v w' => v = .int .i64 (sizeZ bits) ∧ Sat S w' G) := by
  refine ret_of is_place_Size rfl ?_
  rcases size_cases bits with ⟨hb, hs⟩ | ⟨rfl, hs⟩ | ⟨rfl, hs⟩ | ⟨rfl, hs⟩ | ⟨rfl, hs⟩ | ⟨rfl, hs⟩
  all_goals rw [hs]
  all_goals
    repeat' (first | (refine p_call rfl rfl (place_May_spec _ h) ?_; rintro _ _ ⟨⟨rfl, hp⟩ | ⟨rfl, hp⟩, h⟩) | (exfalso; omega) | refine p_val rfl (g_shl_i rfl rfl (by omega) rfl) ?_ | refine stP ?_ | fail)
  all_goals exact x_ret' is_place_Size rfl ⟨rfl, h⟩


theorem place_part_spec (bits a at_ n : Int) (h0 : 0 ≤ a) (h1 : a ≤ 18446744073709551615) (hg : a ≤ 281474976710655 → getV a at_ n ≤ 281474976710655) (h : Sat S w G) :
    Ret Tryz.prog F.place_part #[.int .i64 bits, .int .u64 a, .int .i64 at_, .int .i64 n] w (fun v w' => v = .int .i64 (if (5 ≤ bits ∧ bits ≤ 9) ∧ a ≤ 281474976710655 then getV a at_ n else 0) ∧ Sat S w' G) := by
  refine ret_of is_place_part rfl ?_
  have hb := getV_bounds (w := a) (at_ := at_) (bits := n) h0
  repeat' (first | (refine p_call rfl rfl (place_May_spec _ h) ?_; rintro _ _ ⟨⟨rfl, hp⟩ | ⟨rfl, hp⟩, h⟩) | (refine p_call rfl rfl (field_Get_spec _ _ _ h0 h1 h) ?_; rintro _ _ ⟨rfl, h⟩) | refine stP ?_ | (refine p_cmp rfl rfl rfl rfl (fun hc => ?_) (fun hc => ?_) <;> simp only [cmpProp] at hc) | fail)
  all_goals refine x_ret' is_place_part rfl ⟨?_, h⟩
  all_goals first | (rw [if_pos (by omega)]; rfl) | (rw [if_neg (by omega)]; rfl)

theorem place_part_no (bits a at_ n : Int) (hm : ¬ (5 ≤ bits ∧ bits ≤ 9)) (h : Sat S w G) :
    Ret Tryz.prog F.place_part #[.int .i64 bits, .int .u64 a, .int .i64 at_, .int .i64 n] w (fun v w' => v = .int .i64 0 ∧ Sat S w' G) := by
  refine ret_of is_place_part rfl ?_
  repeat' (first | (refine p_call rfl rfl (place_May_spec _ h) ?_; rintro _ _ ⟨⟨rfl, hp⟩ | ⟨rfl, hp⟩, h⟩) | (exfalso; omega) | refine stP ?_ | (refine p_cmp rfl rfl rfl rfl (fun hc => ?_) (fun hc => ?_) <;> simp only [cmpProp] at hc) | fail)
  all_goals exact x_ret' is_place_part rfl ⟨rfl, h⟩

theorem place_Page_spec (bits a : Int) (h0 : 0 ≤ a) (h1 : a ≤ 18446744073709551615) (h : Sat S w G) :
    Ret Tryz.prog F.place_Page #[.int .i64 bits, .int .u64 a] w (fun v w' => v = .int .i64 (pageZ bits a) ∧ Sat S w' G) := by
  refine ret_of is_place_Page rfl ?_
  have hq := getV_split (bits := bits) h0
  have hz := size_cases bits
  have hb : (5 ≤ bits ∧ bits ≤ 9) → (fun x => a ≤ 281474976710655 → getV a bits x ≤ 281474976710655) (48 - bits) := by
    intro hb ha
    have := (hq ha hb).1
    show getV a bits (48 - bits) ≤ _
    rw [this]
    rcases hz with h | ⟨_, h⟩ | ⟨_, h⟩ | ⟨_, h⟩ | ⟨_, h⟩ | ⟨_, h⟩ <;> first | (exfalso; omega) | (rw [h]; omega)
  by_cases hm : 5 ≤ bits ∧ bits ≤ 9
  · repeat' (first | (refine p_call rfl rfl (place_part_spec _ _ _ _ h0 h1 (hb hm) h) ?_; rintro _ _ ⟨rfl, h⟩) | refine stP ?_ | fail)
    refine x_ret' is_place_Page rfl ⟨?_, h⟩
    by_cases ha : a ≤ 281474976710655
    · rw [if_pos ⟨hm, ha⟩, (hq ha hm).1, pageZ, if_pos (by omega)]; rfl
    · rw [if_neg (by omega), pageZ, if_neg (by omega)]; rfl
  · repeat' (first | (refine p_val rfl (g_subw_i rfl rfl) ?_) | (refine p_call rfl rfl (place_part_no _ _ _ _ hm h) ?_; rintro _ _ ⟨rfl, h⟩) | refine stP ?_ | fail)
    all_goals exact x_ret' is_place_Page rfl ⟨by rw [pageZ, if_neg (by omega)]; rfl, h⟩





theorem place_Of_spec (bits page off : Int) (hp : page ≤ 9223372036854775807) (h : Sat S w G) :
    Ret Tryz.prog F.place_Of #[.int .i64 bits, .int .i64 page, .int .i64 off] w (fun v w' => v = .tuple #[.int .u64 (ofZ bits page off).1, .int .i64 (ofZ bits page off).2] ∧ Sat S w' G) := by
  refine ret_of is_place_Of rfl ?_
  have hz := size_cases bits
  by_cases hq : ¬ 0 < sizeZ bits ∨ page < 0 ∨ off < 0 ∨ sizeZ bits ≤ off
  · repeat' (first | (refine p_call rfl rfl (place_May_spec _ h) ?_; rintro _ _ ⟨⟨rfl, hp⟩ | ⟨rfl, hp⟩, h⟩) | (refine p_call rfl rfl (place_Size_spec _ h) ?_; rintro _ _ ⟨rfl, h⟩) | (exfalso; omega) | refine stP ?_ | (refine p_cmp rfl rfl rfl rfl (fun hc => ?_) (fun hc => ?_) <;> simp only [cmpProp] at hc) | fail)
    all_goals exact x_ret' is_place_Of rfl ⟨by rw [ofZ, if_pos hq]; rfl, h⟩
  · have hm : 5 ≤ bits ∧ bits ≤ 9 := by omega
    have hr := shr_most hm
    have hl := most_le bits
    repeat' (first | (refine p_call rfl rfl (place_May_spec _ h) ?_; rintro _ _ ⟨⟨rfl, hp⟩ | ⟨rfl, hp⟩, h⟩) | (refine p_call rfl rfl (place_Size_spec _ h) ?_; rintro _ _ ⟨rfl, h⟩) | (exfalso; omega) | refine stP ?_ | (refine p_cmp rfl rfl rfl rfl (fun hc => ?_) (fun hc => ?_) <;> simp only [cmpProp] at hc) | fail)
    · exact x_ret' is_place_Of rfl ⟨by rw [ofZ, if_neg hq, if_pos (by omega)]; rfl, h⟩
    · have ho := of_or (page := page) (off := off) hm (by omega) (by omega) (by omega) (by omega)
      have hs := ho.1
      have hu := ho.2.2.1
      have hv := ho.2.2.2
      rw [hs]
      repeat' (first | refine stPs ?_ | (refine p_cmp rfl rfl rfl rfl (fun hc => ?_) (fun hc => ?_) <;> simp only [cmpProp] at hc) | fail)
      refine x_ret' is_place_Of rfl ⟨?_, h⟩
      rw [ofZ, if_neg hq, if_neg (by omega)]
      show Value.tuple #[Value.int .u64 _, _] = _
      rw [ho.2.1]

theorem place_First_spec (bits page : Int) (hp : page ≤ 9223372036854775807) (h : Sat S w G) :
    Ret Tryz.prog F.place_First #[.int .i64 bits, .int .i64 page] w (fun v w' => v = .int .u64 (ofZ bits page 0).1 ∧ Sat S w' G) := by
  refine ret_of is_place_First rfl ?_
  repeat' (first | (refine p_call rfl rfl (place_Of_spec _ _ _ hp h) ?_; rintro _ _ ⟨rfl, h⟩) | refine stP ?_ | fail)
  exact x_ret' is_place_First rfl ⟨rfl, h⟩
end
end Go.Proofs.YtflbfdmmfoigaaaGreat
