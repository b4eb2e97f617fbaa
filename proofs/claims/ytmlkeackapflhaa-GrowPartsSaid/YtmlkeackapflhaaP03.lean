/- Layer 3 (mix): what the functions compute that layers above use. -/
import Derived.Test.YtmlkeackapflhaaHxS
import Derived.Test.YtmlkeackapflhaaP01
import Derived.Test.YtmlkeackapflhaaL08
namespace Go.Proofs.Ytmlkeackapflhaa
open Go Go.HX
attribute [local irreducible] Ret XRun XOps XDr XOne Does Gives
set_option maxRecDepth 4000
set_option maxHeartbeats 1000000
theorem stC0_P03 {goal next : Prop} (k : next) (hs : Hid next → goal := by (intro k; (first | (refine gC F.mix_May ?_; refine p_call rfl rfl (mix_May_spec _ h) ?_) | (refine gC F.ref03_May ?_; refine p_call rfl rfl (ref03_May_spec _ h) ?_) | fail); exact k.out)) : goal := hs ⟨k⟩
theorem stC1_P03 {goal next : Prop} (k : next) (hs : Hid next → goal := by (intro k; (first | (refine gC F.field_Get ?_; refine p_call rfl rfl (field_Get_spec _ _ _ ?_ ?_ h) ?_; iterate 2 (first | assumption | omega | (simp only []; omega) | decide)) | fail); exact k.out)) : goal := hs ⟨k⟩
/-- Numbers of buckets that may be. -/
def mayN (n : Int) : Prop := n = 1 ∨ n = 2 ∨ n = 4 ∨ n = 8 ∨ n = 16 ∨ n = 32 ∨ n = 64 ∨ n = 128 ∨ n = 256 ∨ n = 512 ∨ n = 1024
instance (n : Int) : Decidable (mayN n) := inferInstanceAs (Decidable (_ ∨ _))
theorem may_bits : ∀ n : Nat, n < 1025 → 1 ≤ n → ((n &&& (n - 1)) = 0 ↔ mayN n) := by decide +kernel
/-- The bucket of a number. -/
def bucketZ (h n : Int) : Int := if mayN n then h % n else 0
theorem bucket_bits {h n : Int} (h0 : 0 ≤ h) (hn : mayN n) : ((h.toNat &&& (n - 1).toNat : Nat) : Int) = h % n := by
  rcases hn with rfl | rfl | rfl | rfl | rfl | rfl | rfl | rfl | rfl | rfl | rfl
  · exact and_low 0 h0
  · exact and_low 1 h0
  · exact and_low 2 h0
  · exact and_low 3 h0
  · exact and_low 4 h0
  · exact and_low 5 h0
  · exact and_low 6 h0
  · exact and_low 7 h0
  · exact and_low 8 h0
  · exact and_low 9 h0
  · exact and_low 10 h0
theorem mayN_le {n : Int} (h : mayN n) : 1 ≤ n ∧ n ≤ 1024 := by unfold mayN at h; omega
theorem bucket_lt {h n : Int} (hn : mayN n) : 0 ≤ bucketZ h n ∧ bucketZ h n < n := by
  have := mayN_le hn
  rw [bucketZ, if_pos hn]
  exact ⟨Int.emod_nonneg _ (by omega), Int.emod_lt_of_pos _ (by omega)⟩
section
variable {S : SP} {w : World} {G : List HProp}

theorem mix_May_spec (n : Int) (h : Sat S w G) : Ret Try.prog F.mix_May #[.int .i64 n] w (fun v w' => BoolIs v (mayN n) ∧ Sat S w' G) := by
  refine ret_of is_mix_May rfl ?_
  by_cases hn : 1 ≤ n ∧ n ≤ 1024
  · obtain ⟨m, rfl⟩ := Int.eq_ofNat_of_zero_le (show 0 ≤ n by omega)
    have hb := may_bits m (by omega) (by omega)
    have e : ((m : Int) - 1).toNat = m - 1 := by omega
    repeat' (first | (refine gB .and ?_; refine p_val rfl (g_and_i rfl rfl (by omega) (by omega) (by omega) (by omega)) ?_; rw [e, Int.toNat_natCast]) | refine stP ?_ | (refine p_cmp rfl rfl rfl rfl (fun hc => ?_) (fun hc => ?_) <;> simp only [cmpProp] at hc) | fail)
    · exact x_ret' is_mix_May rfl ⟨.t (hb.1 (by omega)), h⟩
    · exact x_ret' is_mix_May rfl ⟨.f (fun hx => by have := hb.2 hx; omega), h⟩
  · repeat' (first | refine stPs ?_ | (refine p_cmp rfl rfl rfl rfl (fun hc => ?_) (fun hc => ?_) <;> simp only [cmpProp] at hc) | fail)
    all_goals exact x_ret' is_mix_May rfl ⟨.f (fun hx => hn (mayN_le hx)), h⟩

theorem mix_Bucket_spec (x n : Int) (h0 : 0 ≤ x) (h1 : x ≤ 18446744073709551615) (h : Sat S w G) : Ret Try.prog F.mix_Bucket #[.int .u64 x, .int .i64 n] w (fun v w' => v = .int .i64 (bucketZ x n) ∧ Sat S w' G) := by
  refine ret_of is_mix_Bucket rfl ?_
  repeat' (first | refine stPs ?_ | (refine stC0_P03 ?_; rintro _ w ⟨(⟨rfl, hb⟩ | ⟨rfl, hb⟩), h⟩) | fail)
  · have hn := mayN_le hb
    have hb2 := bucket_lt (h := x) hb
    have e := bucket_bits h0 hb
    have e2 : bucketZ x n = x % n := by rw [bucketZ, if_pos hb]
    rw [e2] at hb2
    repeat' (first | (refine gB .and ?_; refine p_val rfl (g_and_u rfl rfl (by omega) (by omega) (by omega) (by omega)) ?_; rw [e]) | refine stP ?_ | fail)
    exact x_ret' is_mix_Bucket rfl ⟨by rw [e2]; rfl, h⟩
  · exact x_ret' is_mix_Bucket rfl ⟨by rw [bucketZ, if_neg hb]; rfl, h⟩

theorem mix_Tag_spec (x : Int) (h0 : 0 ≤ x) (h1 : x ≤ 18446744073709551615) (h : Sat S w G) : Ret Try.prog F.mix_Tag #[.int .u64 x] w (fun v w' => v = .int .u64 (x / 1125899906842624) ∧ Sat S w' G) := by
  refine ret_of is_mix_Tag rfl ?_
  repeat' (first | refine stPs ?_ | (refine stC1_P03 ?_; rintro _ w ⟨rfl, h⟩) | fail)
  refine x_ret' is_mix_Tag rfl ⟨?_, h⟩
  have e : getV x 50 14 = x / 1125899906842624 := by
    rw [getV, if_pos (by unfold fRight; omega), getZ]
    rw [show ((2 : Int) ^ (50 : Int).toNat) = 1125899906842624 from rfl, show ((2 : Int) ^ (14 : Int).toNat) = 16384 from rfl]
    omega
  rw [e]
  rfl

theorem ref03_Tag_spec (x : Int) (h0 : 0 ≤ x) (h1 : x ≤ 18446744073709551615) (h : Sat S w G) : Ret Try.prog F.ref03_Tag #[.int .u64 x] w (fun v w' => v = .int .u64 (x / 1125899906842624) ∧ Sat S w' G) := by
  refine ret_of is_ref03_Tag rfl ?_
  repeat' (first | refine stPs ?_ | fail)
  exact x_ret' is_ref03_Tag rfl ⟨rfl, h⟩

theorem ref03_May_spec (n : Int) (h : Sat S w G) : Ret Try.prog F.ref03_May #[.int .i64 n] w (fun v w' => BoolIs v (mayN n) ∧ Sat S w' G) := by
  refine ret_of is_ref03_May rfl ?_
  repeat' (first | refine stPs ?_ | (refine p_cmp rfl rfl rfl rfl (fun hc => ?_) (fun hc => ?_) <;> simp only [cmpProp] at hc) | fail)
  refine x_keep [0, 3] rfl ?_
  refine x_loop_inv (fun lm le w => ∃ (k : Nat), ∃ (p : Int), lm = 11 - k ∧ k ≤ 11 ∧ p = 2 ^ k ∧ (∀ j : Nat, j < k → n ≠ 2 ^ j) ∧ le = [(0, .int .i64 n), (3, .int .i64 p)] ∧ Sat S w (G)) (11) ⟨0, 1, rfl, by omega, rfl, fun j hj => by omega, rfl, h⟩ ?_
  clear h
  rintro lm le w ⟨k, p, rfl, hi0, hi1, hi2, rfl, h⟩ ih
  have hp : k = 0 ∧ p = 1 ∨ k = 1 ∧ p = 2 ∨ k = 2 ∧ p = 4 ∨ k = 3 ∧ p = 8 ∨ k = 4 ∧ p = 16 ∨ k = 5 ∧ p = 32 ∨ k = 6 ∧ p = 64 ∨ k = 7 ∧ p = 128 ∨ k = 8 ∧ p = 256 ∨ k = 9 ∧ p = 512 ∨ k = 10 ∧ p = 1024 ∨ k = 11 ∧ p = 2048 := by
    have hk : k = 0 ∨ k = 1 ∨ k = 2 ∨ k = 3 ∨ k = 4 ∨ k = 5 ∨ k = 6 ∨ k = 7 ∨ k = 8 ∨ k = 9 ∨ k = 10 ∨ k = 11 := by omega
    rcases hk with rfl | rfl | rfl | rfl | rfl | rfl | rfl | rfl | rfl | rfl | rfl | rfl <;> (subst hi1; decide)
  by_cases h11 : k < 11
  · by_cases hpn : p = n
    · repeat' (first | refine stPs ?_ | (refine p_cmp rfl rfl rfl rfl (fun hc => ?_) (fun hc => ?_) <;> simp only [cmpProp] at hc) | fail)
      exact x_ret' is_ref03_May rfl ⟨.t (by unfold mayN; omega), h⟩
    · repeat' (first | refine stPs ?_ | (refine p_cmp rfl rfl rfl rfl (fun hc => ?_) (fun hc => ?_) <;> simp only [cmpProp] at hc) | fail)
      exact x_keep [0, 3] rfl (ih _ _ _ (by omega) ⟨k + 1, p * 2, rfl, by omega, by rw [hi1, Int.pow_succ], fun j hj => by rcases Nat.lt_or_ge j k with hjk | hjk; exact hi2 j hjk; (have : j = k := by omega); subst this; rw [← hi1]; exact fun e => hpn e.symm, rfl, h⟩)
  · repeat' (first | refine stPs ?_ | (refine p_cmp rfl rfl rfl rfl (fun hc => ?_) (fun hc => ?_) <;> simp only [cmpProp] at hc) | fail)
    refine x_ret' is_ref03_May rfl ⟨.f (fun hx => ?_), h⟩
    unfold mayN at hx
    rcases hx with rfl | rfl | rfl | rfl | rfl | rfl | rfl | rfl | rfl | rfl | rfl
    · exact hi2 0 (by omega) rfl
    · exact hi2 1 (by omega) rfl
    · exact hi2 2 (by omega) rfl
    · exact hi2 3 (by omega) rfl
    · exact hi2 4 (by omega) rfl
    · exact hi2 5 (by omega) rfl
    · exact hi2 6 (by omega) rfl
    · exact hi2 7 (by omega) rfl
    · exact hi2 8 (by omega) rfl
    · exact hi2 9 (by omega) rfl
    · exact hi2 10 (by omega) rfl

theorem ref03_Bucket_spec (x n : Int) (h0 : 0 ≤ x) (_h1 : x ≤ 18446744073709551615) (h : Sat S w G) : Ret Try.prog F.ref03_Bucket #[.int .u64 x, .int .i64 n] w (fun v w' => v = .int .i64 (bucketZ x n) ∧ Sat S w' G) := by
  refine ret_of is_ref03_Bucket rfl ?_
  repeat' (first | refine stPs ?_ | (refine stC0_P03 ?_; rintro _ w ⟨(⟨rfl, hb⟩ | ⟨rfl, hb⟩), h⟩) | fail)
  · have hn := mayN_le hb
    have hb2 := bucket_lt (h := x) hb
    have e2 : bucketZ x n = x % n := by rw [bucketZ, if_pos hb]
    rw [e2] at hb2
    repeat' (first | refine stPs ?_ | fail)
    exact x_ret' is_ref03_Bucket rfl ⟨by rw [e2]; rfl, h⟩
  · exact x_ret' is_ref03_Bucket rfl ⟨by rw [bucketZ, if_neg hb]; rfl, h⟩
end
end Go.Proofs.Ytmlkeackapflhaa
