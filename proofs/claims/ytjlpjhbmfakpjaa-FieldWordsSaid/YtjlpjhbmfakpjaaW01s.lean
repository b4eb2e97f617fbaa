/- The law FieldWords of layer 1. -/
import Derived.Test.YtjlpjhbmfakpjaaR01s
import Derived.Test.YtjlpjhbmfakpjaaW01
namespace Go.Proofs.Ytjlpjhbmfakpjaa
open Go Go.HX
set_option maxRecDepth 4000
set_option maxHeartbeats 1000000
theorem fbytes_words (s : ByteArray) : fbytesV (wordsZ s) s.size = (s, 0) := by
  rw [fbytesV, if_neg (by omega), if_neg (by rw [wordsZ_length]; omega), if_neg (by rw [wordsZ_length]; omega), Int.toNat_natCast, bytes_words]
theorem bytesZ_take (l : List Int) {n m : Nat} (h : n ≤ m) : (bytesZ l m).take n = bytesZ l n := by
  simp only [bytesZ, ← List.map_take, List.take_range, Nat.min_eq_left h]
section
variable {S : SP} {w : World} {G : List HProp}

set_option maxHeartbeats 3000000 in
theorem law01_FieldWords_spec {v1 : Value} (s : ByteArray) (l : List Int) (n : Int) (hn : -9223372036854775808 ≤ n ∧ n ≤ 9223372036854775807) (hb : ∀ i, 0 ≤ l.getD i 0 ∧ l.getD i 0 ≤ 18446744073709551615) (hA : Old S 1 v1 (ints .u64 l)) (h : Sat S w G) :
    Ret Try.prog F.law01_FieldWords #[.string s, v1, .int .i64 n] w (fun v w' => v = .bool true ∧ Sat S w' []) := by
  obtain ⟨a1, len, cap, rfl, _⟩ := hA _ w h
  have hlen := (hA _ w h).ilen
  refine ret_of is_law01_FieldWords rfl ?_
  repeat' (first | (refine gC F.law01_awake ?_; refine p_call rfl rfl (law01_awake_spec h) ?_; rintro _ w ⟨rfl, h⟩) | (refine gO ?_; first | refine p_skip rfl ?_ | refine p_val rfl (gives_pure rfl) ?_ | (refine gB .add ?_; first | refine p_val rfl (g_add_i rfl rfl (by omega) (by omega)) ?_ | refine p_val rfl (g_add_u rfl rfl (by omega) (by omega)) ?_) | (refine gB .mul ?_; first | refine p_val rfl (g_mul_i rfl rfl (by omega) (by omega)) ?_ | refine p_val rfl (g_mul_u rfl rfl (by omega) (by omega)) ?_) | (refine gB .quo ?_; first | refine p_val rfl (g_quo_i rfl rfl (by omega) (by omega) (by omega)) ?_ | refine p_val rfl (g_quo_u rfl rfl (by omega) (by omega) (by omega)) ?_) | (refine gB _ ?_; first | refine p_cmp_t rfl rfl rfl rfl (by first | exact rfl | (simp only [cmpProp]; omega) | decide) ?_ | refine p_cmp_f rfl rfl rfl rfl (by first | exact rfl | (simp only [cmpProp]; omega) | decide) ?_ | (refine p_cmp rfl rfl rfl rfl (fun hc => ?_) (fun hc => ?_) <;> simp only [cmpProp] at hc))) | refine x_nil ?_ | (refine gX ?_; first | refine x_seq ?_ | refine x_ops ?_ | refine x_cond_t rfl ?_ | refine x_cond_f rfl ?_ | refine x_block ?_ | refine x_skip ?_) | refine x_blk ?_)
  · exact x_ret' is_law01_FieldWords rfl ⟨rfl, h.nil⟩
  · exact x_ret' is_law01_FieldWords rfl ⟨rfl, h.nil⟩
  refine p_call rfl rfl (field_Words_spec s (by omega) h) ?_
  rintro v7 w h
  obtain ⟨a7, l7, c7, rfl, _⟩ := ownS_slice h .here
  have hwl := wordsZ_length s
  have hwb : ∀ i, 0 ≤ (wordsZ s).getD i 0 ∧ (wordsZ s).getD i 0 ≤ 18446744073709551615 := fun i => by
    rw [wordsZ_get]
    have := leV_lt (byteN_lt s) (8 * i) 8
    have e : (256 : Nat) ^ 8 = 18446744073709551616 := by decide
    omega
  repeat' (first | (refine gO ?_; first | refine p_skip rfl ?_ | refine p_val rfl (gives_pure rfl) ?_ | (refine gB .add ?_; first | refine p_val rfl (g_add_i rfl rfl (by omega) (by omega)) ?_ | refine p_val rfl (g_add_u rfl rfl (by omega) (by omega)) ?_) | (refine gB .mul ?_; first | refine p_val rfl (g_mul_i rfl rfl (by omega) (by omega)) ?_ | refine p_val rfl (g_mul_u rfl rfl (by omega) (by omega)) ?_) | (refine gB .quo ?_; first | refine p_val rfl (g_quo_i rfl rfl (by omega) (by omega) (by omega)) ?_ | refine p_val rfl (g_quo_u rfl rfl (by omega) (by omega) (by omega)) ?_) | (refine gB _ ?_; first | refine p_cmp_t rfl rfl rfl rfl (by first | exact rfl | (simp only [cmpProp]; omega) | decide) ?_ | refine p_cmp_f rfl rfl rfl rfl (by first | exact rfl | (simp only [cmpProp]; omega) | decide) ?_ | (refine p_cmp rfl rfl rfl rfl (fun hc => ?_) (fun hc => ?_) <;> simp only [cmpProp] at hc))) | refine x_nil ?_ | (refine gX ?_; first | refine x_seq ?_ | refine x_ops ?_ | refine x_cond_t rfl ?_ | refine x_cond_f rfl ?_ | refine x_block ?_ | refine x_skip ?_) | refine x_blk ?_)
  refine p_call rfl rfl (field_Bytes_spec (wordsZ s) s.size (by omega) hwb (fun w h => ownS_rd h .here) h) ?_
  rintro _ w ⟨⟨S, z, hf, rfl, _⟩ | ⟨_, _, _, _, hx⟩, h⟩
  · rw [fbytes_words] at hf
    cases hf
    repeat' (first | (refine gO ?_; first | refine p_skip rfl ?_ | refine p_val rfl (gives_pure rfl) ?_ | (refine gB .add ?_; first | refine p_val rfl (g_add_i rfl rfl (by omega) (by omega)) ?_ | refine p_val rfl (g_add_u rfl rfl (by omega) (by omega)) ?_) | (refine gB .mul ?_; first | refine p_val rfl (g_mul_i rfl rfl (by omega) (by omega)) ?_ | refine p_val rfl (g_mul_u rfl rfl (by omega) (by omega)) ?_) | (refine gB .quo ?_; first | refine p_val rfl (g_quo_i rfl rfl (by omega) (by omega) (by omega)) ?_ | refine p_val rfl (g_quo_u rfl rfl (by omega) (by omega) (by omega)) ?_) | (refine gB _ ?_; first | refine p_cmp_t rfl rfl rfl rfl (by first | exact rfl | (simp only [cmpProp]; omega) | decide) ?_ | refine p_cmp_f rfl rfl rfl rfl (by first | exact rfl | (simp only [cmpProp]; omega) | decide) ?_ | (refine p_cmp rfl rfl rfl rfl (fun hc => ?_) (fun hc => ?_) <;> simp only [cmpProp] at hc))) | refine x_nil ?_ | (refine gX ?_; first | refine x_seq ?_ | refine x_ops ?_ | refine x_cond_t rfl ?_ | refine x_cond_f rfl ?_ | refine x_block ?_ | refine x_skip ?_) | refine x_blk ?_)
    refine p_call rfl rfl (ref01_Words_spec s (by omega) h) ?_
    rintro v35 w h
    refine p_call rfl rfl (ref01_Same_spec (wordsZ s) (wordsZ s) (fun w h => ownS_rd h (.there .here)) (fun w h => ownS_rd h .here) (by omega) h) ?_
    rintro _ w ⟨⟨rfl, _⟩ | ⟨rfl, hx⟩, h⟩
    · repeat' (first | (refine gO ?_; first | refine p_skip rfl ?_ | refine p_val rfl (gives_pure rfl) ?_ | (refine gB .add ?_; first | refine p_val rfl (g_add_i rfl rfl (by omega) (by omega)) ?_ | refine p_val rfl (g_add_u rfl rfl (by omega) (by omega)) ?_) | (refine gB .mul ?_; first | refine p_val rfl (g_mul_i rfl rfl (by omega) (by omega)) ?_ | refine p_val rfl (g_mul_u rfl rfl (by omega) (by omega)) ?_) | (refine gB .quo ?_; first | refine p_val rfl (g_quo_i rfl rfl (by omega) (by omega) (by omega)) ?_ | refine p_val rfl (g_quo_u rfl rfl (by omega) (by omega) (by omega)) ?_) | (refine gB _ ?_; first | refine p_cmp_t rfl rfl rfl rfl (by first | exact rfl | (simp only [cmpProp]; omega) | decide) ?_ | refine p_cmp_f rfl rfl rfl rfl (by first | exact rfl | (simp only [cmpProp]; omega) | decide) ?_ | (refine p_cmp rfl rfl rfl rfl (fun hc => ?_) (fun hc => ?_) <;> simp only [cmpProp] at hc))) | refine x_nil ?_ | (refine gX ?_; first | refine x_seq ?_ | refine x_ops ?_ | refine x_cond_t rfl ?_ | refine x_cond_f rfl ?_ | refine x_block ?_ | refine x_skip ?_) | refine x_blk ?_)
      refine p_sne rfl rfl rfl (fun _ => ?_) (fun hx => absurd rfl hx)
      repeat' (first | (refine gO ?_; first | refine p_skip rfl ?_ | refine p_val rfl (gives_pure rfl) ?_ | (refine gB .add ?_; first | refine p_val rfl (g_add_i rfl rfl (by omega) (by omega)) ?_ | refine p_val rfl (g_add_u rfl rfl (by omega) (by omega)) ?_) | (refine gB .mul ?_; first | refine p_val rfl (g_mul_i rfl rfl (by omega) (by omega)) ?_ | refine p_val rfl (g_mul_u rfl rfl (by omega) (by omega)) ?_) | (refine gB .quo ?_; first | refine p_val rfl (g_quo_i rfl rfl (by omega) (by omega) (by omega)) ?_ | refine p_val rfl (g_quo_u rfl rfl (by omega) (by omega) (by omega)) ?_) | (refine gB _ ?_; first | refine p_cmp_t rfl rfl rfl rfl (by first | exact rfl | (simp only [cmpProp]; omega) | decide) ?_ | refine p_cmp_f rfl rfl rfl rfl (by first | exact rfl | (simp only [cmpProp]; omega) | decide) ?_ | (refine p_cmp rfl rfl rfl rfl (fun hc => ?_) (fun hc => ?_) <;> simp only [cmpProp] at hc))) | refine x_nil ?_ | (refine gX ?_; first | refine x_seq ?_ | refine x_ops ?_ | refine x_cond_t rfl ?_ | refine x_cond_f rfl ?_ | refine x_block ?_ | refine x_skip ?_) | refine x_blk ?_)
      have h := h.nil
      have hwd := fun (i : Nat) (hi : i < l.length) => hb i
      refine p_call rfl rfl (field_Bytes_spec l n (by omega) hb (hA _) h) ?_
      rintro _ w ⟨⟨S, z, hf, rfl, ht⟩ | ⟨rfl, hn0, hn8, hnl, ht⟩, h⟩
      · by_cases c1 : n < 0
        · rw [fbytesV, if_pos c1] at hf
          cases hf
          repeat' (first | (refine p_seq rfl rfl rfl (fun _ => ?_) (fun hx => absurd rfl hx)) | (refine gO ?_; first | refine p_skip rfl ?_ | refine p_val rfl (gives_pure rfl) ?_ | (refine gB .add ?_; first | refine p_val rfl (g_add_i rfl rfl (by omega) (by omega)) ?_ | refine p_val rfl (g_add_u rfl rfl (by omega) (by omega)) ?_) | (refine gB .mul ?_; first | refine p_val rfl (g_mul_i rfl rfl (by omega) (by omega)) ?_ | refine p_val rfl (g_mul_u rfl rfl (by omega) (by omega)) ?_) | (refine gB .quo ?_; first | refine p_val rfl (g_quo_i rfl rfl (by omega) (by omega) (by omega)) ?_ | refine p_val rfl (g_quo_u rfl rfl (by omega) (by omega) (by omega)) ?_) | (refine gB _ ?_; first | refine p_cmp_t rfl rfl rfl rfl (by first | exact rfl | (simp only [cmpProp]; omega) | decide) ?_ | refine p_cmp_f rfl rfl rfl rfl (by first | exact rfl | (simp only [cmpProp]; omega) | decide) ?_ | (refine p_cmp rfl rfl rfl rfl (fun hc => ?_) (fun hc => ?_) <;> simp only [cmpProp] at hc))) | refine x_nil ?_ | (refine gX ?_; first | refine x_seq ?_ | refine x_ops ?_ | refine x_cond_t rfl ?_ | refine x_cond_f rfl ?_ | refine x_block ?_ | refine x_skip ?_) | refine x_blk ?_)
          exact x_ret' is_law01_FieldWords rfl ⟨rfl, h⟩
        by_cases c2 : 8 * (l.length : Int) < n
        · rw [fbytesV, if_neg c1, if_pos c2] at hf
          cases hf
          repeat' (first | (refine p_seq rfl rfl rfl (fun _ => ?_) (fun hx => absurd rfl hx)) | (refine gO ?_; first | refine p_skip rfl ?_ | refine p_val rfl (gives_pure rfl) ?_ | (refine gB .add ?_; first | refine p_val rfl (g_add_i rfl rfl (by omega) (by omega)) ?_ | refine p_val rfl (g_add_u rfl rfl (by omega) (by omega)) ?_) | (refine gB .mul ?_; first | refine p_val rfl (g_mul_i rfl rfl (by omega) (by omega)) ?_ | refine p_val rfl (g_mul_u rfl rfl (by omega) (by omega)) ?_) | (refine gB .quo ?_; first | refine p_val rfl (g_quo_i rfl rfl (by omega) (by omega) (by omega)) ?_ | refine p_val rfl (g_quo_u rfl rfl (by omega) (by omega) (by omega)) ?_) | (refine gB _ ?_; first | refine p_cmp_t rfl rfl rfl rfl (by first | exact rfl | (simp only [cmpProp]; omega) | decide) ?_ | refine p_cmp_f rfl rfl rfl rfl (by first | exact rfl | (simp only [cmpProp]; omega) | decide) ?_ | (refine p_cmp rfl rfl rfl rfl (fun hc => ?_) (fun hc => ?_) <;> simp only [cmpProp] at hc))) | refine x_nil ?_ | (refine gX ?_; first | refine x_seq ?_ | refine x_ops ?_ | refine x_cond_t rfl ?_ | refine x_cond_f rfl ?_ | refine x_block ?_ | refine x_skip ?_) | refine x_blk ?_)
          exact x_ret' is_law01_FieldWords rfl ⟨rfl, h⟩
        by_cases c3 : (l.length : Int) ≠ (n + 7) / 8
        · rw [fbytesV, if_neg c1, if_neg c2, if_pos c3] at hf
          cases hf
          repeat' (first | (refine gO ?_; first | refine p_skip rfl ?_ | refine p_val rfl (gives_pure rfl) ?_ | (refine gB .add ?_; first | refine p_val rfl (g_add_i rfl rfl (by omega) (by omega)) ?_ | refine p_val rfl (g_add_u rfl rfl (by omega) (by omega)) ?_) | (refine gB .mul ?_; first | refine p_val rfl (g_mul_i rfl rfl (by omega) (by omega)) ?_ | refine p_val rfl (g_mul_u rfl rfl (by omega) (by omega)) ?_) | (refine gB .quo ?_; first | refine p_val rfl (g_quo_i rfl rfl (by omega) (by omega) (by omega)) ?_ | refine p_val rfl (g_quo_u rfl rfl (by omega) (by omega) (by omega)) ?_) | (refine gB _ ?_; first | refine p_cmp_t rfl rfl rfl rfl (by first | exact rfl | (simp only [cmpProp]; omega) | decide) ?_ | refine p_cmp_f rfl rfl rfl rfl (by first | exact rfl | (simp only [cmpProp]; omega) | decide) ?_ | (refine p_cmp rfl rfl rfl rfl (fun hc => ?_) (fun hc => ?_) <;> simp only [cmpProp] at hc))) | refine x_nil ?_ | (refine gX ?_; first | refine x_seq ?_ | refine x_ops ?_ | refine x_cond_t rfl ?_ | refine x_cond_f rfl ?_ | refine x_block ?_ | refine x_skip ?_) | refine x_blk ?_)
          refine p_call rfl rfl (field_Bytes_spec l (8 * (len : Int)) (by omega) hb (hA _) h) ?_
          rintro _ w ⟨⟨S, z, hf, rfl, _⟩ | ⟨_, _, _, _, hx⟩, h⟩
          · rw [fbytesV, if_neg (by omega), if_neg (by omega), if_neg (by omega)] at hf
            cases hf
            repeat' (first | (refine p_seq rfl rfl rfl (fun _ => ?_) (fun hx => absurd rfl hx)) | (refine gO ?_; first | refine p_skip rfl ?_ | refine p_val rfl (gives_pure rfl) ?_ | (refine gB .add ?_; first | refine p_val rfl (g_add_i rfl rfl (by omega) (by omega)) ?_ | refine p_val rfl (g_add_u rfl rfl (by omega) (by omega)) ?_) | (refine gB .mul ?_; first | refine p_val rfl (g_mul_i rfl rfl (by omega) (by omega)) ?_ | refine p_val rfl (g_mul_u rfl rfl (by omega) (by omega)) ?_) | (refine gB .quo ?_; first | refine p_val rfl (g_quo_i rfl rfl (by omega) (by omega) (by omega)) ?_ | refine p_val rfl (g_quo_u rfl rfl (by omega) (by omega) (by omega)) ?_) | (refine gB _ ?_; first | refine p_cmp_t rfl rfl rfl rfl (by first | exact rfl | (simp only [cmpProp]; omega) | decide) ?_ | refine p_cmp_f rfl rfl rfl rfl (by first | exact rfl | (simp only [cmpProp]; omega) | decide) ?_ | (refine p_cmp rfl rfl rfl rfl (fun hc => ?_) (fun hc => ?_) <;> simp only [cmpProp] at hc))) | refine x_nil ?_ | (refine gX ?_; first | refine x_seq ?_ | refine x_ops ?_ | refine x_cond_t rfl ?_ | refine x_cond_f rfl ?_ | refine x_block ?_ | refine x_skip ?_) | refine x_blk ?_)
            exact x_ret' is_law01_FieldWords rfl ⟨rfl, h⟩
          · exact absurd (fun i h1 h2 => absurd h2 (by omega)) hx
        · rw [fbytesV, if_neg c1, if_neg c2, if_neg c3] at hf
          cases hf
          obtain ⟨n, rfl⟩ := Int.eq_ofNat_of_zero_le (show 0 ≤ n by omega)
          have hsz : (strOfNums (bytesZ l n)).size = n := by rw [strOfNums_size, bytesZ_length]
          rw [Int.toNat_natCast] at *
          repeat' (first | (refine gO ?_; first | refine p_skip rfl ?_ | refine p_val rfl (gives_pure rfl) ?_ | (refine gB .add ?_; first | refine p_val rfl (g_add_i rfl rfl (by omega) (by omega)) ?_ | refine p_val rfl (g_add_u rfl rfl (by omega) (by omega)) ?_) | (refine gB .mul ?_; first | refine p_val rfl (g_mul_i rfl rfl (by omega) (by omega)) ?_ | refine p_val rfl (g_mul_u rfl rfl (by omega) (by omega)) ?_) | (refine gB .quo ?_; first | refine p_val rfl (g_quo_i rfl rfl (by omega) (by omega) (by omega)) ?_ | refine p_val rfl (g_quo_u rfl rfl (by omega) (by omega) (by omega)) ?_) | (refine gB _ ?_; first | refine p_cmp_t rfl rfl rfl rfl (by first | exact rfl | (simp only [cmpProp]; omega) | decide) ?_ | refine p_cmp_f rfl rfl rfl rfl (by first | exact rfl | (simp only [cmpProp]; omega) | decide) ?_ | (refine p_cmp rfl rfl rfl rfl (fun hc => ?_) (fun hc => ?_) <;> simp only [cmpProp] at hc))) | refine x_nil ?_ | (refine gX ?_; first | refine x_seq ?_ | refine x_ops ?_ | refine x_cond_t rfl ?_ | refine x_cond_f rfl ?_ | refine x_block ?_ | refine x_skip ?_) | refine x_blk ?_)
          refine p_call rfl rfl (ref01_Words_spec _ (by omega) h) ?_
          rintro v w h
          refine p_val rfl (gives_pure rfl) ?_
          refine p_do rfl (d_call rfl (ref01_Same_spec (wordsZ (strOfNums (bytesZ l n))) l (fun w h => ownS_rd h .here) (hA _) (by rw [wordsZ_length]; omega) h)) ?_
          rintro _ w ⟨⟨rfl, _⟩ | ⟨rfl, hx⟩, h⟩
          · repeat' (first | (refine gO ?_; first | refine p_skip rfl ?_ | refine p_val rfl (gives_pure rfl) ?_ | (refine gB .add ?_; first | refine p_val rfl (g_add_i rfl rfl (by omega) (by omega)) ?_ | refine p_val rfl (g_add_u rfl rfl (by omega) (by omega)) ?_) | (refine gB .mul ?_; first | refine p_val rfl (g_mul_i rfl rfl (by omega) (by omega)) ?_ | refine p_val rfl (g_mul_u rfl rfl (by omega) (by omega)) ?_) | (refine gB .quo ?_; first | refine p_val rfl (g_quo_i rfl rfl (by omega) (by omega) (by omega)) ?_ | refine p_val rfl (g_quo_u rfl rfl (by omega) (by omega) (by omega)) ?_) | (refine gB _ ?_; first | refine p_cmp_t rfl rfl rfl rfl (by first | exact rfl | (simp only [cmpProp]; omega) | decide) ?_ | refine p_cmp_f rfl rfl rfl rfl (by first | exact rfl | (simp only [cmpProp]; omega) | decide) ?_ | (refine p_cmp rfl rfl rfl rfl (fun hc => ?_) (fun hc => ?_) <;> simp only [cmpProp] at hc))) | refine x_nil ?_ | (refine gX ?_; first | refine x_seq ?_ | refine x_ops ?_ | refine x_cond_t rfl ?_ | refine x_cond_f rfl ?_ | refine x_block ?_ | refine x_skip ?_) | refine x_blk ?_)
            exact x_ret' is_law01_FieldWords rfl ⟨rfl, h.nil⟩
          · exact absurd ((words_bytes hb (by omega)).2 (ht rfl)) hx
      · obtain ⟨n, rfl⟩ := Int.eq_ofNat_of_zero_le hn0
        repeat' (first | (refine gO ?_; first | refine p_skip rfl ?_ | refine p_val rfl (gives_pure rfl) ?_ | (refine gB .add ?_; first | refine p_val rfl (g_add_i rfl rfl (by omega) (by omega)) ?_ | refine p_val rfl (g_add_u rfl rfl (by omega) (by omega)) ?_) | (refine gB .mul ?_; first | refine p_val rfl (g_mul_i rfl rfl (by omega) (by omega)) ?_ | refine p_val rfl (g_mul_u rfl rfl (by omega) (by omega)) ?_) | (refine gB .quo ?_; first | refine p_val rfl (g_quo_i rfl rfl (by omega) (by omega) (by omega)) ?_ | refine p_val rfl (g_quo_u rfl rfl (by omega) (by omega) (by omega)) ?_) | (refine gB _ ?_; first | refine p_cmp_t rfl rfl rfl rfl (by first | exact rfl | (simp only [cmpProp]; omega) | decide) ?_ | refine p_cmp_f rfl rfl rfl rfl (by first | exact rfl | (simp only [cmpProp]; omega) | decide) ?_ | (refine p_cmp rfl rfl rfl rfl (fun hc => ?_) (fun hc => ?_) <;> simp only [cmpProp] at hc))) | refine x_nil ?_ | (refine gX ?_; first | refine x_seq ?_ | refine x_ops ?_ | refine x_cond_t rfl ?_ | refine x_cond_f rfl ?_ | refine x_block ?_ | refine x_skip ?_) | refine x_blk ?_)
        refine p_call rfl rfl (field_Bytes_spec l (8 * (len : Int)) (by omega) hb (hA _) h) ?_
        rintro _ w ⟨⟨S, z, hf, rfl, _⟩ | ⟨_, _, _, _, hx⟩, h⟩
        · rw [fbytesV, if_neg (by omega), if_neg (by omega), if_neg (by omega)] at hf
          cases hf
          have e8 : (8 * (len : Int)).toNat = 8 * len := by omega
          rw [e8]
          have hsz : (strOfNums (bytesZ l (8 * len))).size = 8 * len := by rw [strOfNums_size, bytesZ_length]
          repeat' (first | (refine p_seq rfl rfl rfl (fun _ => ?_) (fun hx => absurd rfl hx)) | (refine gO ?_; first | refine p_skip rfl ?_ | refine p_val rfl (gives_pure rfl) ?_ | (refine gB .add ?_; first | refine p_val rfl (g_add_i rfl rfl (by omega) (by omega)) ?_ | refine p_val rfl (g_add_u rfl rfl (by omega) (by omega)) ?_) | (refine gB .mul ?_; first | refine p_val rfl (g_mul_i rfl rfl (by omega) (by omega)) ?_ | refine p_val rfl (g_mul_u rfl rfl (by omega) (by omega)) ?_) | (refine gB .quo ?_; first | refine p_val rfl (g_quo_i rfl rfl (by omega) (by omega) (by omega)) ?_ | refine p_val rfl (g_quo_u rfl rfl (by omega) (by omega) (by omega)) ?_) | (refine gB _ ?_; first | refine p_cmp_t rfl rfl rfl rfl (by first | exact rfl | (simp only [cmpProp]; omega) | decide) ?_ | refine p_cmp_f rfl rfl rfl rfl (by first | exact rfl | (simp only [cmpProp]; omega) | decide) ?_ | (refine p_cmp rfl rfl rfl rfl (fun hc => ?_) (fun hc => ?_) <;> simp only [cmpProp] at hc))) | refine x_nil ?_ | (refine gX ?_; first | refine x_seq ?_ | refine x_ops ?_ | refine x_cond_t rfl ?_ | refine x_cond_f rfl ?_ | refine x_block ?_ | refine x_skip ?_) | refine x_blk ?_)
          refine p_val rfl (g_sls (l' := 0) (h' := n) rfl rfl rfl rfl rfl (by omega) (by omega)) ?_
          rw [strOfNums_take, bytesZ_take l (by omega)]
          have hsn : (strOfNums (bytesZ l n)).size = n := by rw [strOfNums_size, bytesZ_length]
          refine p_call rfl rfl (ref01_Words_spec _ (by omega) h) ?_
          rintro v w h
          refine p_val rfl (gives_pure rfl) ?_
          refine p_do rfl (d_call rfl (ref01_Same_spec (wordsZ (strOfNums (bytesZ l n))) l (fun w h => ownS_rd h .here) (hA _) (by rw [wordsZ_length]; omega) h)) ?_
          rintro _ w ⟨⟨rfl, hx⟩ | ⟨rfl, _⟩, h⟩
          · exact absurd ((words_bytes hb (by omega)).1 hx) ht
          · repeat' (first | (refine gO ?_; first | refine p_skip rfl ?_ | refine p_val rfl (gives_pure rfl) ?_ | (refine gB .add ?_; first | refine p_val rfl (g_add_i rfl rfl (by omega) (by omega)) ?_ | refine p_val rfl (g_add_u rfl rfl (by omega) (by omega)) ?_) | (refine gB .mul ?_; first | refine p_val rfl (g_mul_i rfl rfl (by omega) (by omega)) ?_ | refine p_val rfl (g_mul_u rfl rfl (by omega) (by omega)) ?_) | (refine gB .quo ?_; first | refine p_val rfl (g_quo_i rfl rfl (by omega) (by omega) (by omega)) ?_ | refine p_val rfl (g_quo_u rfl rfl (by omega) (by omega) (by omega)) ?_) | (refine gB _ ?_; first | refine p_cmp_t rfl rfl rfl rfl (by first | exact rfl | (simp only [cmpProp]; omega) | decide) ?_ | refine p_cmp_f rfl rfl rfl rfl (by first | exact rfl | (simp only [cmpProp]; omega) | decide) ?_ | (refine p_cmp rfl rfl rfl rfl (fun hc => ?_) (fun hc => ?_) <;> simp only [cmpProp] at hc))) | refine x_nil ?_ | (refine gX ?_; first | refine x_seq ?_ | refine x_ops ?_ | refine x_cond_t rfl ?_ | refine x_cond_f rfl ?_ | refine x_block ?_ | refine x_skip ?_) | refine x_blk ?_)
            exact x_ret' is_law01_FieldWords rfl ⟨rfl, h.nil⟩
        · exact absurd (fun i h1 h2 => absurd h2 (by omega)) hx
    · exact absurd rfl hx
  · exact absurd (tail_words s) hx
end
theorem FieldWords_law (a0 : ByteArray) (a1 : Option Addr) (len1 cap1 : Nat) (z1 : List Int) (a2 : Int) (W : World) (_w0 : a0.size ≤ 140737488351232) (w1 : ArgInts .u64 W a1 len1 cap1 z1) (w2 : (Lit.int .i64 a2).wf = true) :
    Ret Try.prog F.law01_FieldWords #[.string a0, .slice a1 len1 cap1, .int .i64 a2] W (fun v w' => v = .bool true ∧ Sat ⟨W.heap.size, W⟩ w' []) :=
  law01_FieldWords_spec a0 (z1.take len1) a2 (wf_i64 w2) (fun i => wf_u64 (wf_getD w1.wf (by decide) i)) (fun _ _ h => w1.rd h) (Sat.begin W)
end Go.Proofs.Ytjlpjhbmfakpjaa
