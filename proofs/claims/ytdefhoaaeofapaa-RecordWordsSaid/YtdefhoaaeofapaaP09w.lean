/- Layer 9 (record): words, numbers, the example. -/
import Derived.Test.YtdefhoaaeofapaaP09
import Derived.Test.YtdefhoaaeofapaaR01s
namespace Go.Proofs.Ytdefhoaaeofapaa
open Go Go.HX
attribute [local irreducible] Ret XRun XOps XDr XOne Does Gives
set_option maxRecDepth 4000
set_option maxHeartbeats 1000000
def recW (r : RecM) : List Int := [(packV r.p r.t r.i).1, 0, (lengthsV r.key.size r.val.size).1] ++ wordsZ r.key ++ wordsZ r.val
def numV (s : ByteArray) : Int := if s.size ≠ 8 then 0 else ((leV (byteN s) 0 8 : Nat) : Int)
def valueV (n : Int) : ByteArray := strOfNums (bytesZ [n] 8)
theorem valueV_size (n : Int) : (valueV n).size = 8 := by unfold valueV; rw [strOfNums_size, bytesZ_length]
theorem tail_one (n : Int) : tailOk [n] 8 := fun i h1 h2 => by simp at h2; omega
theorem num_value {n : Int} (h0 : 0 ≤ n) (h1 : n ≤ 18446744073709551615) : numV (valueV n) = n := by
  have e : wordsZ (valueV n) = [n] := (words_bytes (l := [n]) (n := 8) (fun i => by rcases i with _ | i <;> simp <;> omega) rfl).2 (tail_one n)
  have e2 := wordsZ_get (valueV n) 0
  rw [e] at e2
  rw [numV, if_neg (by rw [valueV_size]; decide)]
  exact e2.symm
theorem numV_ok (s : ByteArray) : 0 ≤ numV s ∧ numV s ≤ 18446744073709551615 := by
  unfold numV
  have := leV_lt (byteN_lt s) 0 8
  have e : (256 : Nat) ^ 8 = 18446744073709551616 := by decide
  split <;> omega
section
variable {S : SP} {w : World} {G : List HProp}

theorem record_Number_spec (s : ByteArray) (hs : s.size ≤ 140737488355328) (h : Sat S w G) : Ret Try.prog F.record_Number #[.string s] w (fun v w' => v = .int .u64 (numV s) ∧ Sat S w' G) := by
  refine ret_of is_record_Number rfl ?_
  by_cases h8 : s.size = 8
  · repeat' (first | (refine gO ?_; first | refine p_val rfl (gives_pure rfl) ?_ | (refine gB _ ?_; first | refine p_cmp_t rfl rfl rfl rfl (by first | exact rfl | (simp only [cmpProp]; omega) | decide) ?_ | refine p_cmp_f rfl rfl rfl rfl (by first | exact rfl | (simp only [cmpProp]; omega) | decide) ?_ | (refine p_cmp rfl rfl rfl rfl (fun hc => ?_) (fun hc => ?_) <;> simp only [cmpProp] at hc)) | (refine gL ?_; first | refine p_val rfl (g_ld rfl (h.cell (by repeat first | exact .here | apply Has.there) (by exact rfl))) ?_ | refine p_val rfl (g_lda rfl rfl (h.at (by repeat first | exact .here | apply Has.there))) ?_) | refine p_val rfl (g_idx rfl rfl (by omega) (by omega)) ?_) | refine x_nil ?_ | (refine gX ?_; first | refine x_seq ?_ | refine x_ops ?_ | refine x_cond_t rfl ?_ | refine x_cond_f rfl ?_ | refine x_skip ?_))
    refine p_call rfl rfl (field_Words_spec s hs h) ?_
    rintro v w h
    obtain ⟨a, len, cap, rfl, hl, _⟩ := ownS_slice h .here
    rw [ints_length, wordsZ_length, Nat.mul_one] at hl
    obtain ⟨b, rfl⟩ := ownS_addr h .here (by omega)
    have hw : (wordsZ s).getD 0 0 = numV s := by rw [wordsZ_get, numV, if_neg (by omega)]
    repeat' (first | (refine gL ?_; refine p_val rfl (g_ldI (i := 0) rfl (ownS_rd h .here) (by omega) (by rw [wordsZ_length]; omega)) ?_; rw [hw]) | (refine gO ?_; first | refine p_val rfl (gives_pure rfl) ?_ | (refine gB _ ?_; first | refine p_cmp_t rfl rfl rfl rfl (by first | exact rfl | (simp only [cmpProp]; omega) | decide) ?_ | refine p_cmp_f rfl rfl rfl rfl (by first | exact rfl | (simp only [cmpProp]; omega) | decide) ?_ | (refine p_cmp rfl rfl rfl rfl (fun hc => ?_) (fun hc => ?_) <;> simp only [cmpProp] at hc)) | (refine gL ?_; first | refine p_val rfl (g_ld rfl (h.cell (by repeat first | exact .here | apply Has.there) (by exact rfl))) ?_ | refine p_val rfl (g_lda rfl rfl (h.at (by repeat first | exact .here | apply Has.there))) ?_) | refine p_val rfl (g_idx rfl rfl (by omega) (by omega)) ?_) | refine x_nil ?_ | (refine gX ?_; first | refine x_seq ?_ | refine x_ops ?_ | refine x_cond_t rfl ?_ | refine x_cond_f rfl ?_ | refine x_skip ?_))
    exact x_ret' is_record_Number rfl ⟨rfl, h.drop⟩
  · repeat' (first | (refine gO ?_; first | refine p_val rfl (gives_pure rfl) ?_ | (refine gB _ ?_; first | refine p_cmp_t rfl rfl rfl rfl (by first | exact rfl | (simp only [cmpProp]; omega) | decide) ?_ | refine p_cmp_f rfl rfl rfl rfl (by first | exact rfl | (simp only [cmpProp]; omega) | decide) ?_ | (refine p_cmp rfl rfl rfl rfl (fun hc => ?_) (fun hc => ?_) <;> simp only [cmpProp] at hc)) | (refine gL ?_; first | refine p_val rfl (g_ld rfl (h.cell (by repeat first | exact .here | apply Has.there) (by exact rfl))) ?_ | refine p_val rfl (g_lda rfl rfl (h.at (by repeat first | exact .here | apply Has.there))) ?_) | refine p_val rfl (g_idx rfl rfl (by omega) (by omega)) ?_) | refine x_nil ?_ | (refine gX ?_; first | refine x_seq ?_ | refine x_ops ?_ | refine x_cond_t rfl ?_ | refine x_cond_f rfl ?_ | refine x_skip ?_))
    all_goals first | (exfalso; omega) | exact x_ret' is_record_Number rfl ⟨by rw [numV, if_pos h8]; rfl, h⟩

theorem ref09_Number_spec (s : ByteArray) (h : Sat S w G) : Ret Try.prog F.ref09_Number #[.string s] w (fun v w' => v = .int .u64 (numV s) ∧ Sat S w' G) := by
  refine ret_of is_ref09_Number rfl ?_
  by_cases h8 : s.size = 8
  · repeat' (first | (refine gO ?_; first | refine p_val rfl (gives_pure rfl) ?_ | (refine gB .add ?_; first | refine p_val rfl (g_add_i rfl rfl (by omega) (by omega)) ?_ | refine p_val rfl (g_add_u rfl rfl (by omega) (by omega)) ?_) | (refine gB .sub ?_; first | refine p_val rfl (g_sub_i rfl rfl (by omega) (by omega)) ?_ | refine p_val rfl (g_sub_u rfl rfl (by omega) (by omega)) ?_) | (refine gB .mul ?_; first | refine p_val rfl (g_mul_i rfl rfl (by omega) (by omega)) ?_ | refine p_val rfl (g_mul_u rfl rfl (by omega) (by omega)) ?_) | (refine gB _ ?_; first | refine p_cmp_t rfl rfl rfl rfl (by first | exact rfl | (simp only [cmpProp]; omega) | decide) ?_ | refine p_cmp_f rfl rfl rfl rfl (by first | exact rfl | (simp only [cmpProp]; omega) | decide) ?_ | (refine p_cmp rfl rfl rfl rfl (fun hc => ?_) (fun hc => ?_) <;> simp only [cmpProp] at hc)) | refine p_val rfl (g_conv_i rfl (by omega) (by omega)) ?_ | refine p_val rfl (g_conv_u rfl (by omega) (by omega)) ?_ | refine p_val rfl (g_ixs rfl rfl (by omega) (by omega)) ?_) | refine x_nil ?_ | (refine gX ?_; first | refine x_seq ?_ | refine x_ops ?_ | refine x_cond_t rfl ?_ | refine x_cond_f rfl ?_ | refine x_block ?_ | refine x_skip ?_ | refine x_exit rfl ?_) | refine x_blk ?_)
    refine x_keep [0, 3, 4] rfl ?_
    refine x_loop_inv (fun lm le w => ∃ (d : Nat), lm = 8 - d ∧ d ≤ 8 ∧ le = [(0, .string s), (3, .int .u64 ((hornV (byteN s) 0 d : Nat) : Int)), (4, .int .i64 (7 - (d : Int)))] ∧ Sat S w (G)) (8) ⟨0, rfl, by omega, rfl, h⟩ ?_
    clear h
    rintro lm le w ⟨d, rfl, hi0, rfl, h⟩ ih
    by_cases h2 : d < 8
    · have hh := hornV_lt (byteN_lt s) 0 d
      have hp : 256 ^ d ≤ 256 ^ 7 := Nat.pow_le_pow_right (by decide) (by omega)
      have h7 : (256 : Nat) ^ 7 = 72057594037927936 := by decide
      have hbl := byteN_lt s (0 + (7 - d))
      have hn : hornV (byteN s) 0 (d + 1) = hornV (byteN s) 0 d * 256 + byteN s (0 + (7 - d)) := rfl
      generalize hornV (byteN s) 0 d = q at *
      generalize hq1 : hornV (byteN s) 0 (d + 1) = q1 at *
      have hb : ((s[7 - d]!).toNat : Int) = ((byteN s (0 + (7 - d)) : Nat) : Int) := by unfold byteN; rw [if_pos (by omega), Nat.zero_add]
      generalize byteN s (0 + (7 - d)) = y at *
      repeat' (first | (refine p_val rfl (g_ixsN (n := 7 - d) rfl rfl (by omega) (by omega)) ?_; rw [hb]) | (refine gO ?_; first | refine p_val rfl (gives_pure rfl) ?_ | (refine gB .add ?_; first | refine p_val rfl (g_add_i rfl rfl (by omega) (by omega)) ?_ | refine p_val rfl (g_add_u rfl rfl (by omega) (by omega)) ?_) | (refine gB .sub ?_; first | refine p_val rfl (g_sub_i rfl rfl (by omega) (by omega)) ?_ | refine p_val rfl (g_sub_u rfl rfl (by omega) (by omega)) ?_) | (refine gB .mul ?_; first | refine p_val rfl (g_mul_i rfl rfl (by omega) (by omega)) ?_ | refine p_val rfl (g_mul_u rfl rfl (by omega) (by omega)) ?_) | (refine gB _ ?_; first | refine p_cmp_t rfl rfl rfl rfl (by first | exact rfl | (simp only [cmpProp]; omega) | decide) ?_ | refine p_cmp_f rfl rfl rfl rfl (by first | exact rfl | (simp only [cmpProp]; omega) | decide) ?_ | (refine p_cmp rfl rfl rfl rfl (fun hc => ?_) (fun hc => ?_) <;> simp only [cmpProp] at hc)) | refine p_val rfl (g_conv_i rfl (by omega) (by omega)) ?_ | refine p_val rfl (g_conv_u rfl (by omega) (by omega)) ?_ | refine p_val rfl (g_ixs rfl rfl (by omega) (by omega)) ?_) | refine x_nil ?_ | (refine gX ?_; first | refine x_seq ?_ | refine x_ops ?_ | refine x_cond_t rfl ?_ | refine x_cond_f rfl ?_ | refine x_block ?_ | refine x_skip ?_ | refine x_exit rfl ?_) | refine x_blk ?_)
      have e1 : (q : Int) * 256 + (y : Int) = ((q1 : Nat) : Int) := by omega
      have e2 : (7 : Int) - (d : Int) - 1 = 7 - ((d + 1 : Nat) : Int) := by omega
      rw [e1, e2]
      exact x_keep [0, 3, 4] rfl (ih _ _ _ (by omega) ⟨d + 1, rfl, by omega, by rw [hq1], h⟩)
    · obtain rfl : d = 8 := by omega
      rw [hornV_eight]
      repeat' (first | (refine gO ?_; first | refine p_val rfl (gives_pure rfl) ?_ | (refine gB .add ?_; first | refine p_val rfl (g_add_i rfl rfl (by omega) (by omega)) ?_ | refine p_val rfl (g_add_u rfl rfl (by omega) (by omega)) ?_) | (refine gB .sub ?_; first | refine p_val rfl (g_sub_i rfl rfl (by omega) (by omega)) ?_ | refine p_val rfl (g_sub_u rfl rfl (by omega) (by omega)) ?_) | (refine gB .mul ?_; first | refine p_val rfl (g_mul_i rfl rfl (by omega) (by omega)) ?_ | refine p_val rfl (g_mul_u rfl rfl (by omega) (by omega)) ?_) | (refine gB _ ?_; first | refine p_cmp_t rfl rfl rfl rfl (by first | exact rfl | (simp only [cmpProp]; omega) | decide) ?_ | refine p_cmp_f rfl rfl rfl rfl (by first | exact rfl | (simp only [cmpProp]; omega) | decide) ?_ | (refine p_cmp rfl rfl rfl rfl (fun hc => ?_) (fun hc => ?_) <;> simp only [cmpProp] at hc)) | refine p_val rfl (g_conv_i rfl (by omega) (by omega)) ?_ | refine p_val rfl (g_conv_u rfl (by omega) (by omega)) ?_ | refine p_val rfl (g_ixs rfl rfl (by omega) (by omega)) ?_) | refine x_nil ?_ | (refine gX ?_; first | refine x_seq ?_ | refine x_ops ?_ | refine x_cond_t rfl ?_ | refine x_cond_f rfl ?_ | refine x_block ?_ | refine x_skip ?_ | refine x_exit rfl ?_) | refine x_blk ?_)
      exact x_ret' is_ref09_Number rfl ⟨by rw [numV, if_neg (by omega)]; rfl, h⟩
  · repeat' (first | (refine gO ?_; first | refine p_val rfl (gives_pure rfl) ?_ | (refine gB .add ?_; first | refine p_val rfl (g_add_i rfl rfl (by omega) (by omega)) ?_ | refine p_val rfl (g_add_u rfl rfl (by omega) (by omega)) ?_) | (refine gB .sub ?_; first | refine p_val rfl (g_sub_i rfl rfl (by omega) (by omega)) ?_ | refine p_val rfl (g_sub_u rfl rfl (by omega) (by omega)) ?_) | (refine gB .mul ?_; first | refine p_val rfl (g_mul_i rfl rfl (by omega) (by omega)) ?_ | refine p_val rfl (g_mul_u rfl rfl (by omega) (by omega)) ?_) | (refine gB _ ?_; first | refine p_cmp_t rfl rfl rfl rfl (by first | exact rfl | (simp only [cmpProp]; omega) | decide) ?_ | refine p_cmp_f rfl rfl rfl rfl (by first | exact rfl | (simp only [cmpProp]; omega) | decide) ?_ | (refine p_cmp rfl rfl rfl rfl (fun hc => ?_) (fun hc => ?_) <;> simp only [cmpProp] at hc)) | refine p_val rfl (g_conv_i rfl (by omega) (by omega)) ?_ | refine p_val rfl (g_conv_u rfl (by omega) (by omega)) ?_ | refine p_val rfl (g_ixs rfl rfl (by omega) (by omega)) ?_) | refine x_nil ?_ | (refine gX ?_; first | refine x_seq ?_ | refine x_ops ?_ | refine x_cond_t rfl ?_ | refine x_cond_f rfl ?_ | refine x_block ?_ | refine x_skip ?_ | refine x_exit rfl ?_) | refine x_blk ?_)
    all_goals first | (exfalso; omega) | exact x_ret' is_ref09_Number rfl ⟨by rw [numV, if_pos h8]; rfl, h⟩

theorem record_Value_spec (n : Int) (h0 : 0 ≤ n) (h1 : n ≤ 18446744073709551615) (h : Sat S w G) : Ret Try.prog F.record_Value #[.int .u64 n] w (fun v w' => v = .string (valueV n) ∧ Sat S w' G) := by
  refine ret_of is_record_Value rfl ?_
  repeat' (first | (refine gO ?_; first | refine p_val rfl (gives_pure rfl) ?_) | refine x_nil ?_ | (refine gX ?_; first | refine x_seq ?_ | refine x_ops ?_ | refine x_skip ?_))
  refine p_lit [.int .u64 n] rfl rfl rfl rfl rfl rfl h (fun v w h => ?_)
  have h : Sat S w (ownS T.uint64 1 v (ints .u64 [n]) :: G) := h
  refine p_call rfl rfl (field_Bytes_spec [n] 8 (by simp) (fun i => by rcases i with _ | i <;> simp <;> omega) (fun w h => ownS_rd h .here) h) ?_
  rintro _ w ⟨⟨s, z, hf, rfl, _⟩ | ⟨_, _, _, _, hx⟩, h⟩
  · rw [fbytesV, if_neg (by decide), if_neg (by simp), if_neg (by simp)] at hf
    obtain ⟨rfl, rfl⟩ := Prod.mk.inj hf
    repeat' (first | (refine gO ?_; first | refine p_val rfl (gives_pure rfl) ?_) | refine x_nil ?_ | (refine gX ?_; first | refine x_seq ?_ | refine x_ops ?_ | refine x_skip ?_))
    exact x_ret' is_record_Value rfl ⟨rfl, h.drop⟩
  · exact absurd (tail_one n) hx

theorem ref09_Value_spec (n : Int) (h0 : 0 ≤ n) (h1 : n ≤ 18446744073709551615) (h : Sat S w G) : Ret Try.prog F.ref09_Value #[.int .u64 n] w (fun v w' => v = .string (valueV n) ∧ Sat S w' G) := by
  obtain ⟨n, rfl⟩ := Int.eq_ofNat_of_zero_le h0
  refine ret_of is_ref09_Value rfl ?_
  repeat' (first | (refine gO ?_; first | refine p_val rfl (gives_pure rfl) ?_ | (refine gB .add ?_; first | refine p_val rfl (g_add_i rfl rfl (by omega) (by omega)) ?_ | refine p_val rfl (g_add_u rfl rfl (by omega) (by omega)) ?_) | (refine gB .quo ?_; first | refine p_val rfl (g_quo_i rfl rfl (by omega) (by omega) (by omega)) ?_ | refine p_val rfl (g_quo_u rfl rfl (by omega) (by omega) (by omega)) ?_) | (refine gB .rem ?_; first | refine p_val rfl (g_rem_i rfl rfl (by omega) (by omega)) ?_) | (refine gB _ ?_; first | refine p_cmp_t rfl rfl rfl rfl (by first | exact rfl | (simp only [cmpProp]; omega) | decide) ?_ | refine p_cmp_f rfl rfl rfl rfl (by first | exact rfl | (simp only [cmpProp]; omega) | decide) ?_ | (refine p_cmp rfl rfl rfl rfl (fun hc => ?_) (fun hc => ?_) <;> simp only [cmpProp] at hc)) | refine p_val rfl (g_conv_i rfl (by omega) (by omega)) ?_ | refine p_val rfl (g_conv_u rfl (by omega) (by omega)) ?_) | refine x_nil ?_ | (refine gX ?_; first | refine x_seq ?_ | refine x_ops ?_ | refine x_cond_t rfl ?_ | refine x_cond_f rfl ?_ | refine x_block ?_ | refine x_skip ?_ | refine x_exit rfl ?_) | refine x_blk ?_)
  refine p_lit [] rfl rfl rfl rfl rfl rfl h (fun v w h => ?_)
  repeat' (first | (refine gO ?_; first | refine p_val rfl (gives_pure rfl) ?_ | (refine gB .add ?_; first | refine p_val rfl (g_add_i rfl rfl (by omega) (by omega)) ?_ | refine p_val rfl (g_add_u rfl rfl (by omega) (by omega)) ?_) | (refine gB .quo ?_; first | refine p_val rfl (g_quo_i rfl rfl (by omega) (by omega) (by omega)) ?_ | refine p_val rfl (g_quo_u rfl rfl (by omega) (by omega) (by omega)) ?_) | (refine gB .rem ?_; first | refine p_val rfl (g_rem_i rfl rfl (by omega) (by omega)) ?_) | (refine gB _ ?_; first | refine p_cmp_t rfl rfl rfl rfl (by first | exact rfl | (simp only [cmpProp]; omega) | decide) ?_ | refine p_cmp_f rfl rfl rfl rfl (by first | exact rfl | (simp only [cmpProp]; omega) | decide) ?_ | (refine p_cmp rfl rfl rfl rfl (fun hc => ?_) (fun hc => ?_) <;> simp only [cmpProp] at hc)) | refine p_val rfl (g_conv_i rfl (by omega) (by omega)) ?_ | refine p_val rfl (g_conv_u rfl (by omega) (by omega)) ?_) | refine x_nil ?_ | (refine gX ?_; first | refine x_seq ?_ | refine x_ops ?_ | refine x_cond_t rfl ?_ | refine x_cond_f rfl ?_ | refine x_block ?_ | refine x_skip ?_ | refine x_exit rfl ?_) | refine x_blk ?_)
  refine x_keep [0, 3, 4] rfl ?_
  refine x_loop_inv (fun lm le w => ∃ (i : Nat), ∃ (q : Nat), ∃ (v : Value), lm = 8 - i ∧ i ≤ 8 ∧ q = n / 256 ^ i ∧ le = [(0, .int .u64 (q : Int)), (3, v), (4, .int .i64 i)] ∧ Sat S w (ownS T.uint8 1 v (ints .u8 ((bytesZ [(n : Int)] 8).take i)) :: G)) (8) ⟨0, n, _, rfl, by omega, by simp, rfl, h⟩ ?_
  clear h
  rintro lm le w ⟨i, q, v, rfl, hi0, hi1, rfl, h⟩ ih
  by_cases h2 : i < 8
  · have hqn : q ≤ n := by rw [hi1]; exact Nat.div_le_self _ _
    have hx : (bytesZ [(n : Int)] 8)[i]? = some ((q % 256 : Nat) : Int) := by
      have e := bytesZ_get (l := [(n : Int)]) h2
      have e3 : byteW [(n : Int)] i = q % 256 := by
        unfold byteW
        rw [show i / 8 = 0 by omega, Nat.mod_eq_of_lt h2, hi1]
        rfl
      rw [e3] at e
      rw [← e, List.getD_eq_getElem?_getD, List.getElem?_eq_getElem (by rw [bytesZ_length]; exact h2)]
      rfl
    have hnx := take_next hx
    have e1 : ((q : Int) % 256) = ((q % 256 : Nat) : Int) := by omega
    have e2 : ((q : Int) / 256) = ((q / 256 : Nat) : Int) := by omega
    have e8 : (q : Int) % 256 % 256 = (q : Int) % 256 := by omega
    repeat' (first | (refine p_val rfl (g_convw_u8 rfl) ?_; rw [e8]) | (refine gO ?_; first | refine p_val rfl (gives_pure rfl) ?_ | (refine gB .add ?_; first | refine p_val rfl (g_add_i rfl rfl (by omega) (by omega)) ?_ | refine p_val rfl (g_add_u rfl rfl (by omega) (by omega)) ?_) | (refine gB .quo ?_; first | refine p_val rfl (g_quo_i rfl rfl (by omega) (by omega) (by omega)) ?_ | refine p_val rfl (g_quo_u rfl rfl (by omega) (by omega) (by omega)) ?_) | (refine gB .rem ?_; first | refine p_val rfl (g_rem_i rfl rfl (by omega) (by omega)) ?_) | (refine gB _ ?_; first | refine p_cmp_t rfl rfl rfl rfl (by first | exact rfl | (simp only [cmpProp]; omega) | decide) ?_ | refine p_cmp_f rfl rfl rfl rfl (by first | exact rfl | (simp only [cmpProp]; omega) | decide) ?_ | (refine p_cmp rfl rfl rfl rfl (fun hc => ?_) (fun hc => ?_) <;> simp only [cmpProp] at hc)) | refine p_val rfl (g_conv_i rfl (by omega) (by omega)) ?_ | refine p_val rfl (g_conv_u rfl (by omega) (by omega)) ?_) | refine x_nil ?_ | (refine gX ?_; first | refine x_seq ?_ | refine x_ops ?_ | refine x_cond_t rfl ?_ | refine x_cond_f rfl ?_ | refine x_block ?_ | refine x_skip ?_ | refine x_exit rfl ?_) | refine x_blk ?_)
    refine p_lit [.int .u8 ((q : Int) % 256)] rfl rfl rfl rfl rfl rfl h (fun v2 w h => ?_)
    refine p_app rfl rfl rfl rfl (by decide) (h.pick (.there .here)) (ownS_rd h .here) (by simp [Value.oneCell']) (by rw [ints_length, List.length_take, bytesZ_length]; simp; omega) (by rw [ints_length, List.length_take, bytesZ_length]; simp; omega) (fun v3 w h => ?_)
    have e4 : ints .u8 ((bytesZ [(n : Int)] 8).take i) ++ [.int .u8 ((q : Int) % 256)] = ints .u8 ((bytesZ [(n : Int)] 8).take (i + 1)) := by rw [hnx, e1]; simp [ints]
    rw [e4] at h
    repeat' (first | (refine gO ?_; first | refine p_val rfl (gives_pure rfl) ?_ | (refine gB .add ?_; first | refine p_val rfl (g_add_i rfl rfl (by omega) (by omega)) ?_ | refine p_val rfl (g_add_u rfl rfl (by omega) (by omega)) ?_) | (refine gB .quo ?_; first | refine p_val rfl (g_quo_i rfl rfl (by omega) (by omega) (by omega)) ?_ | refine p_val rfl (g_quo_u rfl rfl (by omega) (by omega) (by omega)) ?_) | (refine gB .rem ?_; first | refine p_val rfl (g_rem_i rfl rfl (by omega) (by omega)) ?_) | (refine gB _ ?_; first | refine p_cmp_t rfl rfl rfl rfl (by first | exact rfl | (simp only [cmpProp]; omega) | decide) ?_ | refine p_cmp_f rfl rfl rfl rfl (by first | exact rfl | (simp only [cmpProp]; omega) | decide) ?_ | (refine p_cmp rfl rfl rfl rfl (fun hc => ?_) (fun hc => ?_) <;> simp only [cmpProp] at hc)) | refine p_val rfl (g_conv_i rfl (by omega) (by omega)) ?_ | refine p_val rfl (g_conv_u rfl (by omega) (by omega)) ?_) | refine x_nil ?_ | (refine gX ?_; first | refine x_seq ?_ | refine x_ops ?_ | refine x_cond_t rfl ?_ | refine x_cond_f rfl ?_ | refine x_block ?_ | refine x_skip ?_ | refine x_exit rfl ?_) | refine x_blk ?_)
    rw [e2]
    refine x_keep [0, 3, 4] rfl (ih _ _ _ (by omega) ⟨i + 1, q / 256, v3, rfl, by omega, by rw [hi1, Nat.div_div_eq_div_mul, Nat.pow_succ], rfl, ?_⟩)
    exact h.sub (.cons .here (by repeat first | exact .refl _ | apply Sub.skip))
  · obtain rfl : i = 8 := by omega
    rw [List.take_of_length_le (by rw [bytesZ_length]; exact Nat.le_refl _)] at h
    repeat' (first | (refine p_val rfl (g_b2s rfl (ownS_rd h .here)) ?_) | (refine gO ?_; first | refine p_val rfl (gives_pure rfl) ?_ | (refine gB .add ?_; first | refine p_val rfl (g_add_i rfl rfl (by omega) (by omega)) ?_ | refine p_val rfl (g_add_u rfl rfl (by omega) (by omega)) ?_) | (refine gB .quo ?_; first | refine p_val rfl (g_quo_i rfl rfl (by omega) (by omega) (by omega)) ?_ | refine p_val rfl (g_quo_u rfl rfl (by omega) (by omega) (by omega)) ?_) | (refine gB .rem ?_; first | refine p_val rfl (g_rem_i rfl rfl (by omega) (by omega)) ?_) | (refine gB _ ?_; first | refine p_cmp_t rfl rfl rfl rfl (by first | exact rfl | (simp only [cmpProp]; omega) | decide) ?_ | refine p_cmp_f rfl rfl rfl rfl (by first | exact rfl | (simp only [cmpProp]; omega) | decide) ?_ | (refine p_cmp rfl rfl rfl rfl (fun hc => ?_) (fun hc => ?_) <;> simp only [cmpProp] at hc)) | refine p_val rfl (g_conv_i rfl (by omega) (by omega)) ?_ | refine p_val rfl (g_conv_u rfl (by omega) (by omega)) ?_) | refine x_nil ?_ | (refine gX ?_; first | refine x_seq ?_ | refine x_ops ?_ | refine x_cond_t rfl ?_ | refine x_cond_f rfl ?_ | refine x_block ?_ | refine x_skip ?_ | refine x_exit rfl ?_) | refine x_blk ?_)
    exact x_ret' is_ref09_Value rfl ⟨rfl, h.drop⟩

theorem record_Adds_spec (s : ByteArray) (n : Int) (hs : s.size ≤ 140737488355328) (h : Sat S w G) : Ret Try.prog F.record_Adds #[.string s, .int .u64 n] w (fun v w' => v = .string (valueV ((numV s + n) % 18446744073709551616)) ∧ Sat S w' G) := by
  refine ret_of is_record_Adds rfl ?_
  repeat' (first | (refine gO ?_; first | refine p_val rfl (gives_pure rfl) ?_ | (refine gB .add ?_; first | refine p_val rfl (g_add_i rfl rfl (by omega) (by omega)) ?_ | refine p_val rfl (g_add_u rfl rfl (by omega) (by omega)) ?_)) | refine x_nil ?_ | (refine gX ?_; first | refine x_seq ?_ | refine x_ops ?_ | refine x_skip ?_))
  refine p_call rfl rfl (record_Number_spec s hs h) ?_
  rintro _ w ⟨rfl, h⟩
  repeat' (first | (refine gB .add ?_; refine p_val rfl (g_addw_u rfl rfl) ?_) | (refine gO ?_; first | refine p_val rfl (gives_pure rfl) ?_ | (refine gB .add ?_; first | refine p_val rfl (g_add_i rfl rfl (by omega) (by omega)) ?_ | refine p_val rfl (g_add_u rfl rfl (by omega) (by omega)) ?_)) | refine x_nil ?_ | (refine gX ?_; first | refine x_seq ?_ | refine x_ops ?_ | refine x_skip ?_))
  refine p_call rfl rfl (record_Value_spec _ (by omega) (by omega) h) ?_
  rintro _ w ⟨rfl, h⟩
  repeat' (first | (refine gO ?_; first | refine p_val rfl (gives_pure rfl) ?_ | (refine gB .add ?_; first | refine p_val rfl (g_add_i rfl rfl (by omega) (by omega)) ?_ | refine p_val rfl (g_add_u rfl rfl (by omega) (by omega)) ?_)) | refine x_nil ?_ | (refine gX ?_; first | refine x_seq ?_ | refine x_ops ?_ | refine x_skip ?_))
  exact x_ret' is_record_Adds rfl ⟨rfl, h⟩

set_option maxHeartbeats 3000000 in
theorem record_Words_spec (r : RecM) (p0 : 0 ≤ r.p) (hk : r.key.size ≤ 140737488355328) (hv : r.val.size ≤ 140737488355328) (h : Sat S w G) :
    Ret Try.prog F.record_Words #[.agg (recC r).toArray] w (fun v w' => (rightV r ≠ 0 ∧ v = .tuple #[.slice none 0 0, .int .i64 (rightV r)] ∧ Sat S w' G) ∨ (rightV r = 0 ∧ ∃ u, v = .tuple #[u, .int .i64 0] ∧ Sat S w' (ownS T.uint64 1 u (ints .u64 (recW r)) :: G))) := by
  obtain ⟨p, t, i, key, val⟩ := r
  simp only at p0 hk hv
  refine ret_of is_record_Words rfl ?_
  repeat' (first | (refine gO ?_; first | refine p_val rfl (gives_pure rfl) ?_ | (refine gB _ ?_; first | refine p_cmp_t rfl rfl rfl rfl (by first | exact rfl | (simp only [cmpProp]; omega) | decide) ?_ | refine p_cmp_f rfl rfl rfl rfl (by first | exact rfl | (simp only [cmpProp]; omega) | decide) ?_ | (refine p_cmp rfl rfl rfl rfl (fun hc => ?_) (fun hc => ?_) <;> simp only [cmpProp] at hc)) | (refine gL ?_; first | refine p_val rfl (g_ld rfl (h.cell (by repeat first | exact .here | apply Has.there) (by exact rfl))) ?_ | refine p_val rfl (g_lda rfl rfl (h.at (by repeat first | exact .here | apply Has.there))) ?_)) | refine x_nil ?_ | (refine gX ?_; first | refine x_seq ?_ | refine x_ops ?_ | refine x_cond_t rfl ?_ | refine x_cond_f rfl ?_ | refine x_skip ?_))
  refine p_do rfl (d_box rfl h) ?_
  rintro _ w ⟨b1, rfl, h⟩
  have h : Sat S w (pt b1 (.cells #[.int .u64 p, .bool t, .bool i, .string key, .string val] T.api_Record (0, 0)) :: _) := h
  repeat' (first | (refine gO ?_; first | refine p_val rfl (gives_pure rfl) ?_ | (refine gB _ ?_; first | refine p_cmp_t rfl rfl rfl rfl (by first | exact rfl | (simp only [cmpProp]; omega) | decide) ?_ | refine p_cmp_f rfl rfl rfl rfl (by first | exact rfl | (simp only [cmpProp]; omega) | decide) ?_ | (refine p_cmp rfl rfl rfl rfl (fun hc => ?_) (fun hc => ?_) <;> simp only [cmpProp] at hc)) | (refine gL ?_; first | refine p_val rfl (g_ld rfl (h.cell (by repeat first | exact .here | apply Has.there) (by exact rfl))) ?_ | refine p_val rfl (g_lda rfl rfl (h.at (by repeat first | exact .here | apply Has.there))) ?_)) | refine x_nil ?_ | (refine gX ?_; first | refine x_seq ?_ | refine x_ops ?_ | refine x_cond_t rfl ?_ | refine x_cond_f rfl ?_ | refine x_skip ?_))
  refine p_call rfl rfl (record_Right_spec ⟨p, t, i, key, val⟩ p0 hk hv h) ?_
  rintro _ w ⟨rfl, h⟩
  have hsmall : rightV ⟨p, t, i, key, val⟩ = 0 → key.size ≤ 64 ∧ val.size ≤ 128 := fun hx => by
    unfold rightV at hx
    split at hx
    · cases hx
    · have hb := lengths_bad (k := key.size) (v := val.size)
      simp only at hx
      omega
  by_cases hr : rightV ⟨p, t, i, key, val⟩ = 0
  · rw [hr]
    obtain ⟨k1, v1⟩ := hsmall hr
    repeat' (first | (refine p_val rfl (g_ldpre (vs := [.int .u64 p, .bool t, .bool i]) rfl rfl (h.at .here) (fun j u hj => by rcases j with _ | _ | _ | j <;> first | exact hj | exact absurd hj (by simp))) ?_) | (refine gO ?_; first | refine p_val rfl (gives_pure rfl) ?_ | (refine gB _ ?_; first | refine p_cmp_t rfl rfl rfl rfl (by first | exact rfl | (simp only [cmpProp]; omega) | decide) ?_ | refine p_cmp_f rfl rfl rfl rfl (by first | exact rfl | (simp only [cmpProp]; omega) | decide) ?_ | (refine p_cmp rfl rfl rfl rfl (fun hc => ?_) (fun hc => ?_) <;> simp only [cmpProp] at hc)) | (refine gL ?_; first | refine p_val rfl (g_ld rfl (h.cell (by repeat first | exact .here | apply Has.there) (by exact rfl))) ?_ | refine p_val rfl (g_lda rfl rfl (h.at (by repeat first | exact .here | apply Has.there))) ?_)) | refine x_nil ?_ | (refine gX ?_; first | refine x_seq ?_ | refine x_ops ?_ | refine x_cond_t rfl ?_ | refine x_cond_f rfl ?_ | refine x_skip ?_))
    refine p_call rfl rfl (header_Pack_spec p t i p0 h) ?_
    rintro _ w ⟨rfl, h⟩
    repeat' (first | (refine gO ?_; first | refine p_val rfl (gives_pure rfl) ?_ | (refine gB _ ?_; first | refine p_cmp_t rfl rfl rfl rfl (by first | exact rfl | (simp only [cmpProp]; omega) | decide) ?_ | refine p_cmp_f rfl rfl rfl rfl (by first | exact rfl | (simp only [cmpProp]; omega) | decide) ?_ | (refine p_cmp rfl rfl rfl rfl (fun hc => ?_) (fun hc => ?_) <;> simp only [cmpProp] at hc)) | (refine gL ?_; first | refine p_val rfl (g_ld rfl (h.cell (by repeat first | exact .here | apply Has.there) (by exact rfl))) ?_ | refine p_val rfl (g_lda rfl rfl (h.at (by repeat first | exact .here | apply Has.there))) ?_)) | refine x_nil ?_ | (refine gX ?_; first | refine x_seq ?_ | refine x_ops ?_ | refine x_cond_t rfl ?_ | refine x_cond_f rfl ?_ | refine x_skip ?_))
    refine p_call rfl rfl (header_Lengths_spec key.size val.size h) ?_
    rintro _ w ⟨rfl, h⟩
    have hw : recW ⟨p, t, i, key, val⟩ = [(packV p t i).1, 0, (lengthsV key.size val.size).1] ++ wordsZ key ++ wordsZ val := rfl
    rw [hw]
    generalize packV p t i = q1 at *
    generalize lengthsV key.size val.size = q2 at *
    obtain ⟨x1, y1⟩ := q1
    obtain ⟨x2, y2⟩ := q2
    repeat' (first | (refine gO ?_; first | refine p_val rfl (gives_pure rfl) ?_ | (refine gB _ ?_; first | refine p_cmp_t rfl rfl rfl rfl (by first | exact rfl | (simp only [cmpProp]; omega) | decide) ?_ | refine p_cmp_f rfl rfl rfl rfl (by first | exact rfl | (simp only [cmpProp]; omega) | decide) ?_ | (refine p_cmp rfl rfl rfl rfl (fun hc => ?_) (fun hc => ?_) <;> simp only [cmpProp] at hc)) | (refine gL ?_; first | refine p_val rfl (g_ld rfl (h.cell (by repeat first | exact .here | apply Has.there) (by exact rfl))) ?_ | refine p_val rfl (g_lda rfl rfl (h.at (by repeat first | exact .here | apply Has.there))) ?_)) | refine x_nil ?_ | (refine gX ?_; first | refine x_seq ?_ | refine x_ops ?_ | refine x_cond_t rfl ?_ | refine x_cond_f rfl ?_ | refine x_skip ?_))
    refine p_lit [.int .u64 x1, .int .u64 0, .int .u64 x2] rfl rfl rfl rfl rfl rfl h (fun v3 w h => ?_)
    have h : Sat S w (ownS T.uint64 1 v3 (ints .u64 [x1, 0, x2]) :: _) := h
    repeat' (first | (refine gO ?_; first | refine p_val rfl (gives_pure rfl) ?_ | (refine gB _ ?_; first | refine p_cmp_t rfl rfl rfl rfl (by first | exact rfl | (simp only [cmpProp]; omega) | decide) ?_ | refine p_cmp_f rfl rfl rfl rfl (by first | exact rfl | (simp only [cmpProp]; omega) | decide) ?_ | (refine p_cmp rfl rfl rfl rfl (fun hc => ?_) (fun hc => ?_) <;> simp only [cmpProp] at hc)) | (refine gL ?_; first | refine p_val rfl (g_ld rfl (h.cell (by repeat first | exact .here | apply Has.there) (by exact rfl))) ?_ | refine p_val rfl (g_lda rfl rfl (h.at (by repeat first | exact .here | apply Has.there))) ?_)) | refine x_nil ?_ | (refine gX ?_; first | refine x_seq ?_ | refine x_ops ?_ | refine x_cond_t rfl ?_ | refine x_cond_f rfl ?_ | refine x_skip ?_))
    refine p_call rfl rfl (field_Words_spec key hk h) ?_
    rintro v4 w h
    refine p_app rfl rfl rfl rfl (by decide) (h.pick (.there .here)) (ownS_rd h .here) (ints_one _ _) (by rw [ints_length, ints_length, wordsZ_length]; simp; omega) (by rw [ints_length, ints_length, wordsZ_length]; simp; omega) (fun v5 w h => ?_)
    have e5 : ints .u64 [x1, 0, x2] ++ ints .u64 (wordsZ key) = ints .u64 ([x1, 0, x2] ++ wordsZ key) := by simp [ints]
    rw [e5] at h
    repeat' (first | (refine gO ?_; first | refine p_val rfl (gives_pure rfl) ?_ | (refine gB _ ?_; first | refine p_cmp_t rfl rfl rfl rfl (by first | exact rfl | (simp only [cmpProp]; omega) | decide) ?_ | refine p_cmp_f rfl rfl rfl rfl (by first | exact rfl | (simp only [cmpProp]; omega) | decide) ?_ | (refine p_cmp rfl rfl rfl rfl (fun hc => ?_) (fun hc => ?_) <;> simp only [cmpProp] at hc)) | (refine gL ?_; first | refine p_val rfl (g_ld rfl (h.cell (by repeat first | exact .here | apply Has.there) (by exact rfl))) ?_ | refine p_val rfl (g_lda rfl rfl (h.at (by repeat first | exact .here | apply Has.there))) ?_)) | refine x_nil ?_ | (refine gX ?_; first | refine x_seq ?_ | refine x_ops ?_ | refine x_cond_t rfl ?_ | refine x_cond_f rfl ?_ | refine x_skip ?_))
    refine p_call rfl rfl (field_Words_spec val hv h) ?_
    rintro v6 w h
    refine p_app rfl rfl rfl rfl (by decide) (h.pick (.there .here)) (ownS_rd h .here) (ints_one _ _) (by rw [ints_length, ints_length, wordsZ_length, List.length_append, wordsZ_length]; simp; omega) (by rw [ints_length, ints_length, wordsZ_length, List.length_append, wordsZ_length]; simp; omega) (fun v7 w h => ?_)
    have e6 : ints .u64 ([x1, 0, x2] ++ wordsZ key) ++ ints .u64 (wordsZ val) = ints .u64 ([x1, 0, x2] ++ wordsZ key ++ wordsZ val) := by simp [ints]
    rw [e6] at h
    repeat' (first | (refine gO ?_; first | refine p_val rfl (gives_pure rfl) ?_ | (refine gB _ ?_; first | refine p_cmp_t rfl rfl rfl rfl (by first | exact rfl | (simp only [cmpProp]; omega) | decide) ?_ | refine p_cmp_f rfl rfl rfl rfl (by first | exact rfl | (simp only [cmpProp]; omega) | decide) ?_ | (refine p_cmp rfl rfl rfl rfl (fun hc => ?_) (fun hc => ?_) <;> simp only [cmpProp] at hc)) | (refine gL ?_; first | refine p_val rfl (g_ld rfl (h.cell (by repeat first | exact .here | apply Has.there) (by exact rfl))) ?_ | refine p_val rfl (g_lda rfl rfl (h.at (by repeat first | exact .here | apply Has.there))) ?_)) | refine x_nil ?_ | (refine gX ?_; first | refine x_seq ?_ | refine x_ops ?_ | refine x_cond_t rfl ?_ | refine x_cond_f rfl ?_ | refine x_skip ?_))
    refine x_ret' is_record_Words rfl (.inr ⟨rfl, v7, rfl, ?_⟩)
    exact h.sub (.cons .here (by repeat first | exact .refl _ | apply Sub.skip))
  · generalize rightV ⟨p, t, i, key, val⟩ = z at *
    repeat' (first | (refine gO ?_; first | refine p_val rfl (gives_pure rfl) ?_ | (refine gB _ ?_; first | refine p_cmp_t rfl rfl rfl rfl (by first | exact rfl | (simp only [cmpProp]; omega) | decide) ?_ | refine p_cmp_f rfl rfl rfl rfl (by first | exact rfl | (simp only [cmpProp]; omega) | decide) ?_ | (refine p_cmp rfl rfl rfl rfl (fun hc => ?_) (fun hc => ?_) <;> simp only [cmpProp] at hc)) | (refine gL ?_; first | refine p_val rfl (g_ld rfl (h.cell (by repeat first | exact .here | apply Has.there) (by exact rfl))) ?_ | refine p_val rfl (g_lda rfl rfl (h.at (by repeat first | exact .here | apply Has.there))) ?_)) | refine x_nil ?_ | (refine gX ?_; first | refine x_seq ?_ | refine x_ops ?_ | refine x_cond_t rfl ?_ | refine x_cond_f rfl ?_ | refine x_skip ?_))
    all_goals first | (exfalso; omega) | exact x_ret' is_record_Words rfl (.inl ⟨hr, rfl, h.drop⟩)

theorem law09_awake_spec (h : Sat S w G) : Ret Try.prog F.law09_awake #[] w (fun v w' => v = .bool true ∧ Sat S w' G) := by
  have e1 : rightV ⟨0, false, false, ⟨#[97]⟩, ⟨#[]⟩⟩ = 0 := by
    unfold rightV lengthsV packV
    rfl
  have e2 : (recW ⟨0, false, false, ⟨#[97]⟩, ⟨#[]⟩⟩).length = 4 := by
    unfold recW
    rw [List.length_append, List.length_append, wordsZ_length, wordsZ_length]
    rfl
  have e3 : (recW ⟨0, false, false, ⟨#[97]⟩, ⟨#[]⟩⟩).getD 3 0 = 97 := by
    unfold recW
    rfl
  refine ret_of is_law09_awake rfl ?_
  repeat' (first | (refine gO ?_; refine p_skip rfl ?_) | (refine gO ?_; first | refine p_val rfl (gives_pure rfl) ?_ | (refine gB _ ?_; first | refine p_cmp_t rfl rfl rfl rfl (by first | exact rfl | (simp only [cmpProp]; omega) | decide) ?_ | refine p_cmp_f rfl rfl rfl rfl (by first | exact rfl | (simp only [cmpProp]; omega) | decide) ?_ | (refine p_cmp rfl rfl rfl rfl (fun hc => ?_) (fun hc => ?_) <;> simp only [cmpProp] at hc)) | refine p_val rfl (g_bld rfl rfl) ?_ | (refine gL ?_; first | refine p_val rfl (g_ld rfl (h.cell (by repeat first | exact .here | apply Has.there) (by exact rfl))) ?_ | refine p_val rfl (g_lda rfl rfl (h.at (by repeat first | exact .here | apply Has.there))) ?_) | refine p_val rfl (g_idx rfl rfl (by omega) (by omega)) ?_) | refine x_nil ?_ | (refine gX ?_; first | refine x_seq ?_ | refine x_ops ?_ | refine x_skip ?_))
  refine p_call rfl rfl (record_Words_spec ⟨0, false, false, ⟨#[97]⟩, ⟨#[]⟩⟩ (by decide) (by decide) (by decide) h) ?_
  rintro _ w (⟨hx, _⟩ | ⟨_, u, rfl, h⟩)
  · exact absurd e1 hx
  obtain ⟨a, len, cap, rfl, hl, _⟩ := ownS_slice h .here
  rw [ints_length, e2, Nat.mul_one] at hl
  subst hl
  obtain ⟨b, rfl⟩ := ownS_addr h .here (by decide)
  repeat' (first | (refine gO ?_; refine p_skip rfl ?_) | (refine gL ?_; refine p_val rfl (g_ldI (i := 3) rfl (ownS_rd h .here) (by omega) (by rw [e2]; decide)) ?_; rw [e3]) | (refine gO ?_; first | refine p_val rfl (gives_pure rfl) ?_ | (refine gB _ ?_; first | refine p_cmp_t rfl rfl rfl rfl (by first | exact rfl | (simp only [cmpProp]; omega) | decide) ?_ | refine p_cmp_f rfl rfl rfl rfl (by first | exact rfl | (simp only [cmpProp]; omega) | decide) ?_ | (refine p_cmp rfl rfl rfl rfl (fun hc => ?_) (fun hc => ?_) <;> simp only [cmpProp] at hc)) | refine p_val rfl (g_bld rfl rfl) ?_ | (refine gL ?_; first | refine p_val rfl (g_ld rfl (h.cell (by repeat first | exact .here | apply Has.there) (by exact rfl))) ?_ | refine p_val rfl (g_lda rfl rfl (h.at (by repeat first | exact .here | apply Has.there))) ?_) | refine p_val rfl (g_idx rfl rfl (by omega) (by omega)) ?_) | refine x_nil ?_ | (refine gX ?_; first | refine x_seq ?_ | refine x_ops ?_ | refine x_skip ?_))
  exact x_ret' is_law09_awake rfl ⟨rfl, h.drop⟩

theorem law09_RecordSizes_spec (k v : Int) (h : Sat S w G) : Ret Try.prog F.law09_RecordSizes #[.int .i64 k, .int .i64 v] w (fun v w' => v = .bool true ∧ Sat S w' []) := by
  refine ret_of is_law09_RecordSizes rfl ?_
  repeat' (first | (refine gO ?_; refine p_skip rfl ?_) | (refine gC F.law09_awake ?_; refine p_call rfl rfl (law09_awake_spec h) ?_; rintro _ w ⟨rfl, h⟩) | (refine gO ?_; first | refine p_val rfl (gives_pure rfl) ?_ | (refine gB _ ?_; first | refine p_cmp_t rfl rfl rfl rfl (by first | exact rfl | (simp only [cmpProp]; omega) | decide) ?_ | refine p_cmp_f rfl rfl rfl rfl (by first | exact rfl | (simp only [cmpProp]; omega) | decide) ?_ | (refine p_cmp rfl rfl rfl rfl (fun hc => ?_) (fun hc => ?_) <;> simp only [cmpProp] at hc))) | refine x_nil ?_ | (refine gX ?_; first | refine x_seq ?_ | refine x_ops ?_ | refine x_cond_t rfl ?_ | refine x_cond_f rfl ?_ | refine x_skip ?_))
  refine p_call rfl rfl (record_ValueAt_spec k h) ?_
  rintro _ w ⟨rfl, h⟩
  repeat' (first | (refine gO ?_; refine p_skip rfl ?_) | (refine gO ?_; first | refine p_val rfl (gives_pure rfl) ?_ | (refine gB _ ?_; first | refine p_cmp_t rfl rfl rfl rfl (by first | exact rfl | (simp only [cmpProp]; omega) | decide) ?_ | refine p_cmp_f rfl rfl rfl rfl (by first | exact rfl | (simp only [cmpProp]; omega) | decide) ?_ | (refine p_cmp rfl rfl rfl rfl (fun hc => ?_) (fun hc => ?_) <;> simp only [cmpProp] at hc))) | refine x_nil ?_ | (refine gX ?_; first | refine x_seq ?_ | refine x_ops ?_ | refine x_cond_t rfl ?_ | refine x_cond_f rfl ?_ | refine x_skip ?_))
  refine p_call rfl rfl (record_Size_spec k v h) ?_
  rintro _ w ⟨rfl, h⟩
  repeat' (first | (refine gO ?_; refine p_skip rfl ?_) | (refine gO ?_; first | refine p_val rfl (gives_pure rfl) ?_ | (refine gB _ ?_; first | refine p_cmp_t rfl rfl rfl rfl (by first | exact rfl | (simp only [cmpProp]; omega) | decide) ?_ | refine p_cmp_f rfl rfl rfl rfl (by first | exact rfl | (simp only [cmpProp]; omega) | decide) ?_ | (refine p_cmp rfl rfl rfl rfl (fun hc => ?_) (fun hc => ?_) <;> simp only [cmpProp] at hc))) | refine x_nil ?_ | (refine gX ?_; first | refine x_seq ?_ | refine x_ops ?_ | refine x_cond_t rfl ?_ | refine x_cond_f rfl ?_ | refine x_skip ?_))
  refine p_call rfl rfl (ref09_Size_spec k v h) ?_
  rintro _ w ⟨rfl, h⟩
  repeat' (first | (refine gO ?_; refine p_skip rfl ?_) | (refine gO ?_; first | refine p_val rfl (gives_pure rfl) ?_ | (refine gB _ ?_; first | refine p_cmp_t rfl rfl rfl rfl (by first | exact rfl | (simp only [cmpProp]; omega) | decide) ?_ | refine p_cmp_f rfl rfl rfl rfl (by first | exact rfl | (simp only [cmpProp]; omega) | decide) ?_ | (refine p_cmp rfl rfl rfl rfl (fun hc => ?_) (fun hc => ?_) <;> simp only [cmpProp] at hc))) | refine x_nil ?_ | (refine gX ?_; first | refine x_seq ?_ | refine x_ops ?_ | refine x_cond_t rfl ?_ | refine x_cond_f rfl ?_ | refine x_skip ?_))
  refine p_call rfl rfl (ref09_Size_spec k 0 h) ?_
  rintro _ w ⟨rfl, h⟩
  repeat' (first | (refine gO ?_; refine p_skip rfl ?_) | (refine gO ?_; first | refine p_val rfl (gives_pure rfl) ?_ | (refine gB _ ?_; first | refine p_cmp_t rfl rfl rfl rfl (by first | exact rfl | (simp only [cmpProp]; omega) | decide) ?_ | refine p_cmp_f rfl rfl rfl rfl (by first | exact rfl | (simp only [cmpProp]; omega) | decide) ?_ | (refine p_cmp rfl rfl rfl rfl (fun hc => ?_) (fun hc => ?_) <;> simp only [cmpProp] at hc))) | refine x_nil ?_ | (refine gX ?_; first | refine x_seq ?_ | refine x_ops ?_ | refine x_cond_t rfl ?_ | refine x_cond_f rfl ?_ | refine x_skip ?_))
  exact x_ret' is_law09_RecordSizes rfl ⟨rfl, h.nil⟩

set_option maxHeartbeats 3000000 in
theorem law09_RecordNumbers_spec (n : Int) (s : ByteArray) (h0 : 0 ≤ n) (h1 : n ≤ 18446744073709551615) (hs : s.size ≤ 140737488355327) (h : Sat S w G) : Ret Try.prog F.law09_RecordNumbers #[.int .u64 n, .string s] w (fun v w' => v = .bool true ∧ Sat S w' []) := by
  have en := num_value h0 h1
  have es := numV_ok s
  refine ret_of is_law09_RecordNumbers rfl ?_
  repeat' (first | (refine gO ?_; refine p_skip rfl ?_) | (refine gC F.law09_awake ?_; refine p_call rfl rfl (law09_awake_spec h) ?_; rintro _ w ⟨rfl, h⟩) | (refine gO ?_; first | refine p_val rfl (gives_pure rfl) ?_ | (refine gB .add ?_; first | refine p_val rfl (g_add_i rfl rfl (by omega) (by omega)) ?_ | refine p_val rfl (g_add_u rfl rfl (by omega) (by omega)) ?_) | (refine gB _ ?_; first | refine p_cmp_t rfl rfl rfl rfl (by first | exact rfl | (simp only [cmpProp]; omega) | decide) ?_ | refine p_cmp_f rfl rfl rfl rfl (by first | exact rfl | (simp only [cmpProp]; omega) | decide) ?_ | (refine p_cmp rfl rfl rfl rfl (fun hc => ?_) (fun hc => ?_) <;> simp only [cmpProp] at hc))) | refine x_nil ?_ | (refine gX ?_; first | refine x_seq ?_ | refine x_ops ?_ | refine x_cond_t rfl ?_ | refine x_cond_f rfl ?_ | refine x_skip ?_))
  · exact x_ret' is_law09_RecordNumbers rfl ⟨rfl, h.nil⟩
  refine p_call rfl rfl (record_Value_spec n h0 h1 h) ?_
  rintro _ w ⟨rfl, h⟩
  repeat' (first | (refine gO ?_; refine p_skip rfl ?_) | (refine gO ?_; first | refine p_val rfl (gives_pure rfl) ?_ | (refine gB .add ?_; first | refine p_val rfl (g_add_i rfl rfl (by omega) (by omega)) ?_ | refine p_val rfl (g_add_u rfl rfl (by omega) (by omega)) ?_) | (refine gB _ ?_; first | refine p_cmp_t rfl rfl rfl rfl (by first | exact rfl | (simp only [cmpProp]; omega) | decide) ?_ | refine p_cmp_f rfl rfl rfl rfl (by first | exact rfl | (simp only [cmpProp]; omega) | decide) ?_ | (refine p_cmp rfl rfl rfl rfl (fun hc => ?_) (fun hc => ?_) <;> simp only [cmpProp] at hc))) | refine x_nil ?_ | (refine gX ?_; first | refine x_seq ?_ | refine x_ops ?_ | refine x_cond_t rfl ?_ | refine x_cond_f rfl ?_ | refine x_skip ?_))
  refine p_call rfl rfl (ref09_Value_spec n h0 h1 h) ?_
  rintro _ w ⟨rfl, h⟩
  repeat' (first | (refine gO ?_; refine p_skip rfl ?_) | (refine p_seq rfl rfl rfl (fun _ => ?_) (fun hx => absurd rfl hx)) | (refine gO ?_; first | refine p_val rfl (gives_pure rfl) ?_ | (refine gB .add ?_; first | refine p_val rfl (g_add_i rfl rfl (by omega) (by omega)) ?_ | refine p_val rfl (g_add_u rfl rfl (by omega) (by omega)) ?_) | (refine gB _ ?_; first | refine p_cmp_t rfl rfl rfl rfl (by first | exact rfl | (simp only [cmpProp]; omega) | decide) ?_ | refine p_cmp_f rfl rfl rfl rfl (by first | exact rfl | (simp only [cmpProp]; omega) | decide) ?_ | (refine p_cmp rfl rfl rfl rfl (fun hc => ?_) (fun hc => ?_) <;> simp only [cmpProp] at hc))) | refine x_nil ?_ | (refine gX ?_; first | refine x_seq ?_ | refine x_ops ?_ | refine x_cond_t rfl ?_ | refine x_cond_f rfl ?_ | refine x_skip ?_))
  refine p_call rfl rfl (record_Number_spec (valueV n) (by rw [valueV_size]; decide) h) ?_
  rintro _ w ⟨rfl, h⟩
  rw [en]
  repeat' (first | (refine gO ?_; refine p_skip rfl ?_) | (refine gO ?_; first | refine p_val rfl (gives_pure rfl) ?_ | (refine gB .add ?_; first | refine p_val rfl (g_add_i rfl rfl (by omega) (by omega)) ?_ | refine p_val rfl (g_add_u rfl rfl (by omega) (by omega)) ?_) | (refine gB _ ?_; first | refine p_cmp_t rfl rfl rfl rfl (by first | exact rfl | (simp only [cmpProp]; omega) | decide) ?_ | refine p_cmp_f rfl rfl rfl rfl (by first | exact rfl | (simp only [cmpProp]; omega) | decide) ?_ | (refine p_cmp rfl rfl rfl rfl (fun hc => ?_) (fun hc => ?_) <;> simp only [cmpProp] at hc))) | refine x_nil ?_ | (refine gX ?_; first | refine x_seq ?_ | refine x_ops ?_ | refine x_cond_t rfl ?_ | refine x_cond_f rfl ?_ | refine x_skip ?_))
  refine p_call rfl rfl (record_Number_spec s (by omega) h) ?_
  rintro _ w ⟨rfl, h⟩
  repeat' (first | (refine gO ?_; refine p_skip rfl ?_) | (refine gO ?_; first | refine p_val rfl (gives_pure rfl) ?_ | (refine gB .add ?_; first | refine p_val rfl (g_add_i rfl rfl (by omega) (by omega)) ?_ | refine p_val rfl (g_add_u rfl rfl (by omega) (by omega)) ?_) | (refine gB _ ?_; first | refine p_cmp_t rfl rfl rfl rfl (by first | exact rfl | (simp only [cmpProp]; omega) | decide) ?_ | refine p_cmp_f rfl rfl rfl rfl (by first | exact rfl | (simp only [cmpProp]; omega) | decide) ?_ | (refine p_cmp rfl rfl rfl rfl (fun hc => ?_) (fun hc => ?_) <;> simp only [cmpProp] at hc))) | refine x_nil ?_ | (refine gX ?_; first | refine x_seq ?_ | refine x_ops ?_ | refine x_cond_t rfl ?_ | refine x_cond_f rfl ?_ | refine x_skip ?_))
  refine p_call rfl rfl (ref09_Number_spec s h) ?_
  rintro _ w ⟨rfl, h⟩
  repeat' (first | (refine gO ?_; refine p_skip rfl ?_) | (refine gO ?_; first | refine p_val rfl (gives_pure rfl) ?_ | (refine gB .add ?_; first | refine p_val rfl (g_add_i rfl rfl (by omega) (by omega)) ?_ | refine p_val rfl (g_add_u rfl rfl (by omega) (by omega)) ?_) | (refine gB _ ?_; first | refine p_cmp_t rfl rfl rfl rfl (by first | exact rfl | (simp only [cmpProp]; omega) | decide) ?_ | refine p_cmp_f rfl rfl rfl rfl (by first | exact rfl | (simp only [cmpProp]; omega) | decide) ?_ | (refine p_cmp rfl rfl rfl rfl (fun hc => ?_) (fun hc => ?_) <;> simp only [cmpProp] at hc))) | refine x_nil ?_ | (refine gX ?_; first | refine x_seq ?_ | refine x_ops ?_ | refine x_cond_t rfl ?_ | refine x_cond_f rfl ?_ | refine x_skip ?_))
  refine p_call rfl rfl (record_Adds_spec s n (by omega) h) ?_
  rintro _ w ⟨rfl, h⟩
  repeat' (first | (refine gO ?_; refine p_skip rfl ?_) | (refine gO ?_; first | refine p_val rfl (gives_pure rfl) ?_ | (refine gB .add ?_; first | refine p_val rfl (g_add_i rfl rfl (by omega) (by omega)) ?_ | refine p_val rfl (g_add_u rfl rfl (by omega) (by omega)) ?_) | (refine gB _ ?_; first | refine p_cmp_t rfl rfl rfl rfl (by first | exact rfl | (simp only [cmpProp]; omega) | decide) ?_ | refine p_cmp_f rfl rfl rfl rfl (by first | exact rfl | (simp only [cmpProp]; omega) | decide) ?_ | (refine p_cmp rfl rfl rfl rfl (fun hc => ?_) (fun hc => ?_) <;> simp only [cmpProp] at hc))) | refine x_nil ?_ | (refine gX ?_; first | refine x_seq ?_ | refine x_ops ?_ | refine x_cond_t rfl ?_ | refine x_cond_f rfl ?_ | refine x_skip ?_))
  refine p_call rfl rfl (ref09_Number_spec s h) ?_
  rintro _ w ⟨rfl, h⟩
  repeat' (first | (refine gO ?_; refine p_skip rfl ?_) | (refine gB .add ?_; refine p_val rfl (g_addw_u rfl rfl) ?_) | (refine gO ?_; first | refine p_val rfl (gives_pure rfl) ?_ | (refine gB .add ?_; first | refine p_val rfl (g_add_i rfl rfl (by omega) (by omega)) ?_ | refine p_val rfl (g_add_u rfl rfl (by omega) (by omega)) ?_) | (refine gB _ ?_; first | refine p_cmp_t rfl rfl rfl rfl (by first | exact rfl | (simp only [cmpProp]; omega) | decide) ?_ | refine p_cmp_f rfl rfl rfl rfl (by first | exact rfl | (simp only [cmpProp]; omega) | decide) ?_ | (refine p_cmp rfl rfl rfl rfl (fun hc => ?_) (fun hc => ?_) <;> simp only [cmpProp] at hc))) | refine x_nil ?_ | (refine gX ?_; first | refine x_seq ?_ | refine x_ops ?_ | refine x_cond_t rfl ?_ | refine x_cond_f rfl ?_ | refine x_skip ?_))
  refine p_call rfl rfl (ref09_Value_spec _ (by omega) (by omega) h) ?_
  rintro _ w ⟨rfl, h⟩
  repeat' (first | (refine gO ?_; refine p_skip rfl ?_) | (refine p_seq rfl rfl rfl (fun _ => ?_) (fun hx => absurd rfl hx)) | (refine gO ?_; first | refine p_val rfl (gives_pure rfl) ?_ | (refine gB .add ?_; first | refine p_val rfl (g_add_i rfl rfl (by omega) (by omega)) ?_ | refine p_val rfl (g_add_u rfl rfl (by omega) (by omega)) ?_) | (refine gB _ ?_; first | refine p_cmp_t rfl rfl rfl rfl (by first | exact rfl | (simp only [cmpProp]; omega) | decide) ?_ | refine p_cmp_f rfl rfl rfl rfl (by first | exact rfl | (simp only [cmpProp]; omega) | decide) ?_ | (refine p_cmp rfl rfl rfl rfl (fun hc => ?_) (fun hc => ?_) <;> simp only [cmpProp] at hc))) | refine x_nil ?_ | (refine gX ?_; first | refine x_seq ?_ | refine x_ops ?_ | refine x_cond_t rfl ?_ | refine x_cond_f rfl ?_ | refine x_skip ?_))
  exact x_ret' is_law09_RecordNumbers rfl ⟨rfl, h.nil⟩
theorem RecordSizes_law (a0 a1 : Int) (W : World) (_w0 : (Lit.int .i64 a0).wf = true) (_w1 : (Lit.int .i64 a1).wf = true) : Ret Try.prog F.law09_RecordSizes #[.int .i64 a0, .int .i64 a1] W (fun v w' => v = .bool true ∧ Sat ⟨W.heap.size, W⟩ w' []) :=
  law09_RecordSizes_spec a0 a1 (Sat.begin W)
theorem RecordNumbers_law (a0 : Int) (a1 : ByteArray) (W : World) (w0 : (Lit.int .u64 a0).wf = true) (w1 : a1.size ≤ 140737488351232) : Ret Try.prog F.law09_RecordNumbers #[.int .u64 a0, .string a1] W (fun v w' => v = .bool true ∧ Sat ⟨W.heap.size, W⟩ w' []) :=
  law09_RecordNumbers_spec a0 a1 (wf_u64 w0).1 (wf_u64 w0).2 (by omega) (Sat.begin W)
end
end Go.Proofs.Ytdefhoaaeofapaa
