/- Layer 18 (inplace): the document's texts; does it write. -/
import Derived.Test.YtjoicobfjpaepaaHxS
import Derived.Test.YtjoicobfjpaepaaP18x
namespace Go.Proofs.Ytjoicobfjpaepaa
open Go Go.HX
attribute [local irreducible] Ret XRun XOps XDr XOne Does Gives
set_option maxRecDepth 4000
set_option maxHeartbeats 1000000
section
variable {S : SP} {w : World} {G : List HProp}

theorem ref18_Work_Holds_spec {mb : Nat} {k : WkM} {ul ug : Value} (h : Sat S w (pt mb (.cells (wkC k ul ug).toArray T.haycroftref18_Work (0, 0)) :: G)) :
    Ret Try.prog F.ref18_Work_Holds #[.pointer (some ⟨mb, 0, none⟩)] w (fun v w' => BoolIs v k.holds ∧ Sat S w' (pt mb (.cells (wkC k ul ug).toArray T.haycroftref18_Work (0, 0)) :: G)) := by
  obtain ⟨rd, ad, n, l, mv, dn, seen, got⟩ := k
  refine ret_of is_ref18_Work_Holds rfl ?_
  cases rd
  · by_cases hm : 0 < mv
    · cases dn
      · repeat' (first | refine stPs ?_ | (refine p_cmp rfl rfl rfl rfl (fun hc => ?_) (fun hc => ?_) <;> simp only [cmpProp] at hc) | fail)
        exact x_ret' is_ref18_Work_Holds rfl ⟨.t ⟨rfl, hm, rfl⟩, h.pm1⟩
      · repeat' (first | refine stPs ?_ | (refine p_cmp rfl rfl rfl rfl (fun hc => ?_) (fun hc => ?_) <;> simp only [cmpProp] at hc) | fail)
        exact x_ret' is_ref18_Work_Holds rfl ⟨.f (fun hh => by have := hh.2.2; simp at this), h.pm1⟩
    · repeat' (first | refine stPs ?_ | (refine p_cmp rfl rfl rfl rfl (fun hc => ?_) (fun hc => ?_) <;> simp only [cmpProp] at hc) | fail)
      exact x_ret' is_ref18_Work_Holds rfl ⟨.f (fun hh => hm hh.2.1), h.pm1⟩
  · repeat' (first | refine stPs ?_ | (refine p_cmp rfl rfl rfl rfl (fun hc => ?_) (fun hc => ?_) <;> simp only [cmpProp] at hc) | fail)
    exact x_ret' is_ref18_Work_Holds rfl ⟨.f (fun hh => by have := hh.1; simp at this), h.pm1⟩

set_option maxHeartbeats 8000000 in
theorem ref09_Text_spec {v0 : Value} (l : List Int) (n : Nat) (hn : n ≤ 8 * l.length) (hl : l.length ≤ 1000) (hb : ∀ i, 0 ≤ l.getD i 0 ∧ l.getD i 0 ≤ 18446744073709551615) (ht : tailOk l n) (hr : ∀ w, Sat S w G → RdS w 1 v0 (ints .u64 l)) (h : Sat S w G) :
    Ret Try.prog F.ref09_Text #[v0, .int .i64 n] w (fun v w' => v = .tuple #[.string (strOfNums (bytesZ l n)), .bool true] ∧ Sat S w' G) := by
  obtain ⟨a, len, cap, rfl, _⟩ := hr w h
  have hlen := (hr w h).ilen
  have hbl : (bytesZ l (8 * l.length)).length = 8 * l.length := bytesZ_length _ _
  refine ret_of is_ref09_Text rfl ?_
  repeat' (first | refine stPs ?_ | (refine p_cmp rfl rfl rfl rfl (fun hc => ?_) (fun hc => ?_) <;> simp only [cmpProp] at hc) | fail)
  refine p_lit [] rfl rfl rfl rfl rfl rfl h (fun v w h => ?_)
  repeat' (first | refine stPs ?_ | (refine p_cmp rfl rfl rfl rfl (fun hc => ?_) (fun hc => ?_) <;> simp only [cmpProp] at hc) | fail)
  refine x_keep [0, 1, 6, 7] rfl ?_
  refine x_loop_inv (fun lm le w => ∃ (i : Nat), ∃ (v : Value), lm = len - i ∧ i ≤ len ∧ le = [(0, .slice a len cap), (1, .int .i64 n), (6, v), (7, .int .i64 i)] ∧ Sat S w (ownS T.uint8 1 v (ints .u8 ((bytesZ l (8 * l.length)).take (8 * i))) :: G)) (len) ⟨0, _, rfl, by omega, rfl, h⟩ ?_
  clear h
  rintro lm le w ⟨i, v, rfl, hi0, rfl, h⟩ ih
  by_cases h1 : i < len
  · obtain ⟨pa, po, rfl⟩ := (hr _ h.drop).addr (by omega)
    have hbi := hb i
    obtain ⟨z, hz⟩ := Int.eq_ofNat_of_zero_le hbi.1
    have hz64 : z ≤ 18446744073709551615 := by omega
    repeat' (first | (refine gL ?_; refine p_val rfl (g_ldI (i := i) rfl (hr _ h.drop) (by omega) (by omega)) ?_; rw [hz]) | refine stP ?_ | (refine p_cmp rfl rfl rfl rfl (fun hc => ?_) (fun hc => ?_) <;> simp only [cmpProp] at hc) | fail)
    refine x_keep [0, 1, 6, 7, 8, 9] rfl ?_
    refine x_loop_inv (fun lm le w => ∃ (j : Nat), ∃ (q : Nat), ∃ (v : Value), lm = 8 - j ∧ j ≤ 8 ∧ q = z / 256 ^ j ∧ le = [(0, .slice (some ⟨pa, po, none⟩) len cap), (1, .int .i64 n), (6, v), (7, .int .i64 i), (8, .int .u64 (q : Int)), (9, .int .i64 j)] ∧ Sat S w (ownS T.uint8 1 v (ints .u8 ((bytesZ l (8 * l.length)).take (8 * i + j))) :: G)) (8) ⟨0, z, _, rfl, by omega, by simp, rfl, h⟩ ?_
    clear h
    rintro lm le w ⟨j, q, v, rfl, hi0, hi1, rfl, h⟩ ihj
    by_cases h2 : j < 8
    · have hqn : q ≤ z := by rw [hi1]; exact Nat.div_le_self _ _
      have hx : (bytesZ l (8 * l.length))[8 * i + j]? = some ((q % 256 : Nat) : Int) := by
        have e := bytesZ_get (l := l) (n := 8 * l.length) (i := 8 * i + j) (by omega)
        have e3 : byteW l (8 * i + j) = q % 256 := by
          rw [byteW_at l i j h2, hz, hi1]
          rfl
        rw [e3] at e
        rw [← e, List.getD_eq_getElem?_getD, List.getElem?_eq_getElem (by rw [hbl]; omega)]
        rfl
      have hnx := take_next hx
      have e1 : ((q : Int) % 256) = ((q % 256 : Nat) : Int) := by omega
      have e2 : ((q : Int) / 256) = ((q / 256 : Nat) : Int) := by omega
      have e8 : (q : Int) % 256 % 256 = (q : Int) % 256 := by omega
      repeat' (first | (refine p_val rfl (g_convw_u8 rfl) ?_; rw [e8]) | refine stP ?_ | (refine p_cmp rfl rfl rfl rfl (fun hc => ?_) (fun hc => ?_) <;> simp only [cmpProp] at hc) | fail)
      refine p_lit [.int .u8 ((q : Int) % 256)] rfl rfl rfl rfl rfl rfl h (fun v2 w h => ?_)
      refine p_app rfl rfl rfl rfl (by decide) (h.pick (.there .here)) (ownS_rd h .here) (by simp [Value.oneCell']) (by rw [ints_length, List.length_take, hbl]; simp; omega) (by rw [ints_length, List.length_take, hbl]; simp; omega) (fun v3 w h => ?_)
      have e4 : ints .u8 ((bytesZ l (8 * l.length)).take (8 * i + j)) ++ [.int .u8 ((q : Int) % 256)] = ints .u8 ((bytesZ l (8 * l.length)).take (8 * i + (j + 1))) := by rw [show 8 * i + (j + 1) = 8 * i + j + 1 by omega, hnx, e1]; simp [ints]
      rw [e4] at h
      repeat' (first | refine stPs ?_ | (refine p_cmp rfl rfl rfl rfl (fun hc => ?_) (fun hc => ?_) <;> simp only [cmpProp] at hc) | fail)
      rw [e2]
      refine x_keep [0, 1, 6, 7, 8, 9] rfl (ihj _ _ _ (by omega) ⟨j + 1, q / 256, v3, rfl, by omega, by rw [hi1, Nat.div_div_eq_div_mul, Nat.pow_succ], rfl, ?_⟩)
      exact h.sub (.cons .here (by repeat first | exact .refl _ | apply Sub.skip))
    · obtain rfl : j = 8 := by omega
      repeat' (first | refine stPs ?_ | (refine p_cmp rfl rfl rfl rfl (fun hc => ?_) (fun hc => ?_) <;> simp only [cmpProp] at hc) | fail)
      rw [show 8 * i + 8 = 8 * (i + 1) by omega] at h
      exact x_keep [0, 1, 6, 7] rfl (ih _ _ _ (by omega) ⟨i + 1, _, rfl, by omega, rfl, h⟩)
  · obtain rfl : i = len := by omega
    rw [List.take_of_length_le (by omega)] at h
    obtain ⟨ab, lb, cb, rfl, hlb, hcb⟩ := ownS_slice h .here
    rw [ints_length, Nat.mul_one, hbl] at hlb
    repeat' (first | refine stPs ?_ | (refine p_cmp rfl rfl rfl rfl (fun hc => ?_) (fun hc => ?_) <;> simp only [cmpProp] at hc) | fail)
    refine x_keep [1, 6, 10] rfl ?_
    refine x_loop_inv (fun lm le w => ∃ (k : Nat), lm = lb - k ∧ k ≤ lb ∧ n ≤ k ∧ le = [(1, .int .i64 n), (6, .slice ab lb cb), (10, .int .i64 k)] ∧ Sat S w (ownS T.uint8 1 (.slice ab lb cb) (ints .u8 (bytesZ l (8 * l.length))) :: G)) (lb - n) ⟨n, rfl, by omega, by omega, rfl, h⟩ ?_
    clear h
    rintro lm le w ⟨k, rfl, hi0, hi1, rfl, h⟩ ihk
    by_cases h3 : k < lb
    · obtain ⟨bo, rfl⟩ := ownS_addr (E := T.uint8) h .here (by omega)
      have hk0 : (bytesZ l (8 * l.length)).getD k 0 = 0 := by
        rw [bytesZ_get (by omega), ht k hi1 (by omega)]
        rfl
      repeat' (first | (refine gL ?_; refine p_val rfl (g_ldI (i := k) rfl (ownS_rd h .here) (by omega) (by omega)) ?_; rw [hk0]) | refine stP ?_ | (refine p_cmp rfl rfl rfl rfl (fun hc => ?_) (fun hc => ?_) <;> simp only [cmpProp] at hc) | fail)
      exact x_keep [1, 6, 10] rfl (ihk _ _ _ (by omega) ⟨k + 1, rfl, by omega, by omega, rfl, h⟩)
    · have hr0 := (ownS_rd h .here).sub (l' := 0) (h' := n) (by omega) (by omega)
      have e1 : ((ints .u8 (bytesZ l (8 * l.length))).take (n * 1)).drop (0 * 1) = ints .u8 (bytesZ l n) := by
        have m : min (n * 1) (8 * l.length) = n := by omega
        simp only [ints, bytesZ, ← List.map_take, List.take_range, Nat.zero_mul, List.drop_zero, m]
      rw [e1] at hr0
      repeat' (first | (refine p_val rfl (g_slc (l' := 0) (h' := n) rfl rfl rfl rfl rfl (by omega) (by omega)) ?_) | (refine p_val rfl (g_b2s rfl hr0) ?_) | refine stP ?_ | (refine p_cmp rfl rfl rfl rfl (fun hc => ?_) (fun hc => ?_) <;> simp only [cmpProp] at hc) | fail)
      exact x_ret' is_ref09_Text rfl ⟨rfl, h.drop⟩

theorem ref18_Text_spec {v0 : Value} (l : List Int) (n : Nat) (hn : n ≤ 8 * l.length) (hl : l.length ≤ 1000) (hb : ∀ i, 0 ≤ l.getD i 0 ∧ l.getD i 0 ≤ 18446744073709551615) (ht : tailOk l n) (hr : ∀ w, Sat S w G → RdS w 1 v0 (ints .u64 l)) (h : Sat S w G) :
    Ret Try.prog F.ref18_Text #[v0, .int .i64 n] w (fun v w' => v = .string (strOfNums (bytesZ l n)) ∧ Sat S w' G) := by
  obtain ⟨a, len, cap, rfl, _⟩ := hr w h
  refine ret_of is_ref18_Text rfl ?_
  repeat' (first | (refine gC F.ref09_Text ?_; refine p_call rfl rfl (ref09_Text_spec l n hn hl hb ht hr h) ?_; rintro _ w ⟨rfl, h⟩) | refine stP ?_ | fail)
  exact x_ret' is_ref18_Text rfl ⟨rfl, h⟩
end
end Go.Proofs.Ytjoicobfjpaepaa
