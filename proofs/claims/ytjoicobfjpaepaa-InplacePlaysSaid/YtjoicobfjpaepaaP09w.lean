/- Layer 9 (record): words, numbers, the example. -/
import Derived.Test.YtjoicobfjpaepaaHxS
import Derived.Test.YtjoicobfjpaepaaP09
import Derived.Test.YtjoicobfjpaepaaR01s
namespace Go.Proofs.Ytjoicobfjpaepaa
open Go Go.HX
attribute [local irreducible] Ret XRun XOps XDr XOne Does Gives
set_option maxRecDepth 4000
set_option maxHeartbeats 1000000
def recW (r : RecM) : List Int := [(packV r.p r.t r.i).1, 0, (lengthsV r.key.size r.val.size).1] ++ wordsZ r.key ++ wordsZ r.val
def numV (s : ByteArray) : Int := if s.size ≠ 8 then 0 else ((leV (byteN s) 0 8 : Nat) : Int)
def valueV (n : Int) : ByteArray := strOfNums (bytesZ [n] 8)
theorem valueV_size (n : Int) : (valueV n).size = 8 := by unfold valueV; rw [strOfNums_size, bytesZ_length]
theorem tail_one (n : Int) : tailOk [n] 8 := fun i h1 h2 => by simp at h2; omega
theorem num_value {n : Int} (h0 : 0 ≤ n) (h1 : n ≤ 18446744073709551615) : numV (valueV n) = n := by
  have e : wordsZ (valueV n) = [n] := (words_bytes (l := [n]) (n := 8) (fun i => by rcases i with _ | i <;> simp <;> omega) rfl).2 (tail_one n)
  have e2 := wordsZ_get (valueV n) 0
  rw [e] at e2
  rw [numV, if_neg (by rw [valueV_size]; decide)]
  exact e2.symm
theorem numV_ok (s : ByteArray) : 0 ≤ numV s ∧ numV s ≤ 18446744073709551615 := by
  unfold numV
  have := leV_lt (byteN_lt s) 0 8
  have e : (256 : Nat) ^ 8 = 18446744073709551616 := by decide
  split <;> omega
section
variable {S : SP} {w : World} {G : List HProp}





theorem record_Value_spec (n : Int) (h0 : 0 ≤ n) (h1 : n ≤ 18446744073709551615) (h : Sat S w G) : Ret Try.prog F.record_Value #[.int .u64 n] w (fun v w' => v = .string (valueV n) ∧ Sat S w' G) := by
  refine ret_of is_record_Value rfl ?_
  repeat' (first | refine stPs ?_ | fail)
  refine p_lit [.int .u64 n] rfl rfl rfl rfl rfl rfl h (fun v w h => ?_)
  have h : Sat S w (ownS T.uint64 1 v (ints .u64 [n]) :: G) := h
  refine p_call rfl rfl (field_Bytes_spec [n] 8 (by simp) (fun i => by rcases i with _ | i <;> simp <;> omega) (fun w h => ownS_rd h .here) h) ?_
  rintro _ w ⟨⟨s, z, hf, rfl, _⟩ | ⟨_, _, _, _, hx⟩, h⟩
  · rw [fbytesV, if_neg (by decide), if_neg (by simp), if_neg (by simp)] at hf
    obtain ⟨rfl, rfl⟩ := Prod.mk.inj hf
    repeat' (first | refine stPs ?_ | fail)
    exact x_ret' is_record_Value rfl ⟨rfl, h.drop⟩
  · exact absurd (tail_one n) hx

theorem ref09_Value_spec (n : Int) (h0 : 0 ≤ n) (h1 : n ≤ 18446744073709551615) (h : Sat S w G) : Ret Try.prog F.ref09_Value #[.int .u64 n] w (fun v w' => v = .string (valueV n) ∧ Sat S w' G) := by
  obtain ⟨n, rfl⟩ := Int.eq_ofNat_of_zero_le h0
  refine ret_of is_ref09_Value rfl ?_
  repeat' (first | refine stPs ?_ | (refine p_cmp rfl rfl rfl rfl (fun hc => ?_) (fun hc => ?_) <;> simp only [cmpProp] at hc) | fail)
  refine p_lit [] rfl rfl rfl rfl rfl rfl h (fun v w h => ?_)
  repeat' (first | refine stPs ?_ | (refine p_cmp rfl rfl rfl rfl (fun hc => ?_) (fun hc => ?_) <;> simp only [cmpProp] at hc) | fail)
  refine x_keep [0, 3, 4] rfl ?_
  refine x_loop_inv (fun lm le w => ∃ (i : Nat), ∃ (q : Nat), ∃ (v : Value), lm = 8 - i ∧ i ≤ 8 ∧ q = n / 256 ^ i ∧ le = [(0, .int .u64 (q : Int)), (3, v), (4, .int .i64 i)] ∧ Sat S w (ownS T.uint8 1 v (ints .u8 ((bytesZ [(n : Int)] 8).take i)) :: G)) (8) ⟨0, n, _, rfl, by omega, by simp, rfl, h⟩ ?_
  clear h
  rintro lm le w ⟨i, q, v, rfl, hi0, hi1, rfl, h⟩ ih
  by_cases h2 : i < 8
  · have hqn : q ≤ n := by rw [hi1]; exact Nat.div_le_self _ _
    have hx : (bytesZ [(n : Int)] 8)[i]? = some ((q % 256 : Nat) : Int) := by
      have e := bytesZ_get (l := [(n : Int)]) h2
      have e3 : byteW [(n : Int)] i = q % 256 := by
        unfold byteW
        rw [show i / 8 = 0 by omega, Nat.mod_eq_of_lt h2, hi1]
        rfl
      rw [e3] at e
      rw [← e, List.getD_eq_getElem?_getD, List.getElem?_eq_getElem (by rw [bytesZ_length]; exact h2)]
      rfl
    have hnx := take_next hx
    have e1 : ((q : Int) % 256) = ((q % 256 : Nat) : Int) := by omega
    have e2 : ((q : Int) / 256) = ((q / 256 : Nat) : Int) := by omega
    have e8 : (q : Int) % 256 % 256 = (q : Int) % 256 := by omega
    repeat' (first | (refine p_val rfl (g_convw_u8 rfl) ?_; rw [e8]) | refine stP ?_ | (refine p_cmp rfl rfl rfl rfl (fun hc => ?_) (fun hc => ?_) <;> simp only [cmpProp] at hc) | fail)
    refine p_lit [.int .u8 ((q : Int) % 256)] rfl rfl rfl rfl rfl rfl h (fun v2 w h => ?_)
    refine p_app rfl rfl rfl rfl (by decide) (h.pick (.there .here)) (ownS_rd h .here) (by simp [Value.oneCell']) (by rw [ints_length, List.length_take, bytesZ_length]; simp; omega) (by rw [ints_length, List.length_take, bytesZ_length]; simp; omega) (fun v3 w h => ?_)
    have e4 : ints .u8 ((bytesZ [(n : Int)] 8).take i) ++ [.int .u8 ((q : Int) % 256)] = ints .u8 ((bytesZ [(n : Int)] 8).take (i + 1)) := by rw [hnx, e1]; simp [ints]
    rw [e4] at h
    repeat' (first | refine stPs ?_ | (refine p_cmp rfl rfl rfl rfl (fun hc => ?_) (fun hc => ?_) <;> simp only [cmpProp] at hc) | fail)
    rw [e2]
    refine x_keep [0, 3, 4] rfl (ih _ _ _ (by omega) ⟨i + 1, q / 256, v3, rfl, by omega, by rw [hi1, Nat.div_div_eq_div_mul, Nat.pow_succ], rfl, ?_⟩)
    exact h.sub (.cons .here (by repeat first | exact .refl _ | apply Sub.skip))
  · obtain rfl : i = 8 := by omega
    rw [List.take_of_length_le (by rw [bytesZ_length]; exact Nat.le_refl _)] at h
    repeat' (first | (refine p_val rfl (g_b2s rfl (ownS_rd h .here)) ?_) | refine stP ?_ | (refine p_cmp rfl rfl rfl rfl (fun hc => ?_) (fun hc => ?_) <;> simp only [cmpProp] at hc) | fail)
    exact x_ret' is_ref09_Value rfl ⟨rfl, h.drop⟩









end
end Go.Proofs.Ytjoicobfjpaepaa