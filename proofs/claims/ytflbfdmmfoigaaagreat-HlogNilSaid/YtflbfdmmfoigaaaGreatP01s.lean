/- Layer 1 (field): words and bytes of a text. -/
import Derived.Test.YtflbfdmmfoigaaaGreatHxS
import Derived.Test.YtflbfdmmfoigaaaGreatIr0
import Derived.Test.YtflbfdmmfoigaaaGreatIr1
namespace Go.Proofs.YtflbfdmmfoigaaaGreat
open Go Go.HX
attribute [local irreducible] Ret XRun XOps XDr XOne Does Gives
set_option maxRecDepth 4000
set_option maxHeartbeats 1000000
/-- The words of a text, of whose bytes i are in. -/
def wordsTo (s : ByteArray) (i : Nat) : List Int := (List.range ((s.size + 7) / 8)).map (fun j => ((leV (byteN s) (8 * j) (min 8 (i - 8 * j)) : Nat) : Int))
theorem wordsTo_length (s : ByteArray) (i : Nat) : (wordsTo s i).length = (s.size + 7) / 8 := by simp [wordsTo]
theorem wordsTo_get {s : ByteArray} {i j : Nat} (h : j < (s.size + 7) / 8) : (wordsTo s i).getD j 0 = ((leV (byteN s) (8 * j) (min 8 (i - 8 * j)) : Nat) : Int) := by
  simp [wordsTo, List.getD_eq_getElem?_getD, h]
theorem wordsTo_zero (s : ByteArray) : wordsTo s 0 = List.replicate ((s.size + 7) / 8) 0 := by
  apply List.ext_getElem
  · simp [wordsTo]
  · intro j h1 h2
    simp [wordsTo, leV]
theorem wordsTo_end (s : ByteArray) : wordsTo s s.size = wordsZ s := by
  unfold wordsTo wordsZ
  congr 1
  funext j
  congr 1
  exact (leV_tail (by omega) (fun k h1 _ => byteN_end (by omega))).symm
theorem wordsTo_next {s : ByteArray} {i : Nat} (h : i < s.size) : (wordsTo s i).set (i / 8) ((((wordsTo s i).getD (i / 8) 0).toNat ||| (shl64 (byteN s i : Int) (((i : Int) % 8) * 8)).toNat : Nat) : Int) = wordsTo s (i + 1) := by
  have hlt : i / 8 < (s.size + 7) / 8 := by omega
  have hb := byteN_lt s i
  have hk : i % 8 < 8 := Nat.mod_lt _ (by decide)
  have hv : leV (byteN s) (8 * (i / 8)) (i % 8) < 256 ^ (i % 8) := leV_lt (byteN_lt s) _ _
  have hp : (256 : Nat) ^ (i % 8) = 2 ^ (8 * (i % 8)) := by rw [show (256 : Nat) = 2 ^ 8 from rfl, ← Nat.pow_mul]
  have hsh : (shl64 (byteN s i : Int) (((i : Int) % 8) * 8)).toNat = byteN s i * 2 ^ (8 * (i % 8)) := by
    unfold shl64
    have e1 : ((((i : Int) % 8) * 8).toNat) = 8 * (i % 8) := by omega
    rw [e1, Nat.min_eq_left (by omega)]
    have h1 : byteN s i * 2 ^ (8 * (i % 8)) < 18446744073709551616 := by
      have : byteN s i * 2 ^ (8 * (i % 8)) < 256 * 256 ^ 7 := by
        rw [← hp]
        exact Nat.mul_lt_mul_of_lt_of_le hb (Nat.pow_le_pow_right (by decide) (by omega)) (by decide)
      exact this
    have e2 : ((byteN s i : Nat) : Int) * 2 ^ (8 * (i % 8)) = ((byteN s i * 2 ^ (8 * (i % 8)) : Nat) : Int) := by push_cast; rfl
    rw [e2]
    omega
  apply List.ext_getElem
  · rw [List.length_set, wordsTo_length, wordsTo_length]
  · intro j h1 h2
    rw [wordsTo_length] at h2
    rw [List.getElem_set]
    have e3 : ∀ (i j : Nat) (h : j < (wordsTo s i).length), (wordsTo s i)[j] = (wordsTo s i).getD j 0 := fun i j h => by rw [List.getD_eq_getElem?_getD, List.getElem?_eq_getElem h]; rfl
    rw [e3 (i + 1) j (by rw [wordsTo_length]; exact h2), wordsTo_get h2]
    split
    · rename_i hj
      subst hj
      rw [wordsTo_get hlt, hsh, Int.toNat_natCast]
      have m1 : min 8 (i - 8 * (i / 8)) = i % 8 := by omega
      have m2 : min 8 (i + 1 - 8 * (i / 8)) = i % 8 + 1 := by omega
      rw [m1, m2, leV, hp]
      rw [hp] at hv
      have e4 : 8 * (i / 8) + i % 8 = i := by omega
      rw [e4]
      congr 1
      rw [Nat.or_comm, Nat.mul_comm, Nat.add_comm, Nat.two_pow_add_eq_or_of_lt hv]
    · rename_i hj
      rw [e3 i j (by rw [wordsTo_length]; exact h2), wordsTo_get h2]
      have : min 8 (i - 8 * j) = min 8 (i + 1 - 8 * j) := by omega
      rw [this]
section
variable {S : SP} {w : World} {G : List HProp}

def fbytesV (l : List Int) (n : Int) : ByteArray × Int := if n < 0 then (ByteArray.empty, 1) else if 8 * l.length < n then (ByteArray.empty, 3) else if (l.length : Int) ≠ (n + 7) / 8 then (ByteArray.empty, 4) else (strOfNums (bytesZ l n.toNat), 0)

set_option maxHeartbeats 3000000 in
theorem field_Bytes_spec {v : Value} (l : List Int) (n : Int) (hl : l.length ≤ 1000000) (hb : ∀ i, 0 ≤ l.getD i 0 ∧ l.getD i 0 ≤ 18446744073709551615) (hr : ∀ w, Sat S w G → RdS w 1 v (ints .u64 l)) (h : Sat S w G) :
    Ret Tryz.prog F.field_Bytes #[v, .int .i64 n] w (fun v w' => ((∃ s z, fbytesV l n = (s, z) ∧ v = .tuple #[.string s, .int .i64 z] ∧ (z = 0 → tailOk l n.toNat)) ∨ (v = .tuple #[.string ByteArray.empty, .int .i64 4] ∧ 0 ≤ n ∧ n ≤ 8 * l.length ∧ (l.length : Int) = (n + 7) / 8 ∧ ¬ tailOk l n.toNat)) ∧ Sat S w' G) := by
  obtain ⟨a, len, cap, rfl, _⟩ := hr w h
  have hlen : l.length = len := (hr w h).ilen
  refine ret_of is_field_Bytes rfl ?_
  repeat' (first | refine stPs ?_ | (refine p_cmp rfl rfl rfl rfl (fun hc => ?_) (fun hc => ?_) <;> simp only [cmpProp] at hc) | fail)
  · refine x_ret' is_field_Bytes rfl ⟨.inl ⟨_, 1, ?_, rfl, fun hz => by cases hz⟩, h⟩
    rw [fbytesV, if_pos (by omega)]; rfl
  · refine x_ret' is_field_Bytes rfl ⟨.inl ⟨_, 3, ?_, rfl, fun hz => by cases hz⟩, h⟩
    rw [fbytesV, if_neg (by omega), if_pos (by omega)]; rfl
  obtain ⟨n, rfl⟩ := Int.eq_ofNat_of_zero_le (show 0 ≤ n by omega)
  have e : (8 : Int) * (len : Int) = ((8 * len : Nat) : Int) := by omega
  rw [e]
  refine p_mkI rfl rfl (by omega) (by omega) h (fun v w h => ?_)
  obtain ⟨ab, lb, cb, rfl, hlb, hcb⟩ := ownS_slice h .here
  rw [ints_length, List.length_replicate, Nat.mul_one] at hlb
  subst hlb
  repeat' (first | refine stPs ?_ | (refine p_cmp rfl rfl rfl rfl (fun hc => ?_) (fun hc => ?_) <;> simp only [cmpProp] at hc) | fail)
  have hz : List.replicate (8 * len) (0 : Int) = bytesZ l 0 ++ List.replicate (8 * len - 0) 0 := by simp [bytesZ]
  rw [hz] at h
  refine x_keep [0, 1, 6, 24, 25] rfl ?_
  refine x_loop_inv (fun lm le w => ∃ (i : Nat), lm = 8 * len - i ∧ i ≤ 8 * len ∧ le = [(0, .slice a len cap), (1, .int .i64 n), (6, .slice ab (8 * len) cb), (24, .int .i64 ((8 * len : Nat) : Int)), (25, .int .i64 i)] ∧ Sat S w (ownS T.uint8 1 (.slice ab (8 * len) cb) (ints .u8 (bytesZ l i ++ List.replicate (8 * len - i) 0)) :: G)) (8 * len) ⟨0, rfl, by omega, rfl, h⟩ ?_
  clear h
  rintro lm le w ⟨i, rfl, hi0, rfl, h⟩ ih
  by_cases h1 : i < 8 * len
  · obtain ⟨b, rfl⟩ := ownS_addr h .here (by omega)
    have hrd := hr w h.drop
    obtain ⟨b2, o2, rfl⟩ := hrd.addr (by omega)
    have hq1 := hb (i / 8)
    have hlt : i < (bytesZ l i ++ List.replicate (8 * len - i) 0).length := by rw [List.length_append, bytesZ_length, List.length_replicate]; omega
    have hbo : shr64 (l.getD (i / 8) 0) (((i : Int) % 8) * 8) % 256 = (byteW l i : Int) := by
      unfold shr64 byteW
      obtain ⟨q, hq⟩ := Int.eq_ofNat_of_zero_le hq1.1
      rw [hq]
      have e1 : min ((((i : Int) % 8) * 8).toNat) 64 = 8 * (i % 8) := by omega
      have e2 : (256 : Nat) ^ (i % 8) = 2 ^ (8 * (i % 8)) := by rw [show (256 : Nat) = 2 ^ 8 from rfl, ← Nat.pow_mul]
      rw [e1, e2, Int.toNat_natCast]
      push_cast
      rfl
    have hset : (bytesZ l i ++ List.replicate (8 * len - i) 0).set i (byteW l i : Int) = bytesZ l (i + 1) ++ List.replicate (8 * len - (i + 1)) 0 := by
      rw [List.set_append_right _ _ (by rw [bytesZ_length]; exact Nat.le_refl _), bytesZ_length, Nat.sub_self]
      have : 8 * len - i = (8 * len - (i + 1)) + 1 := by omega
      rw [this, List.replicate_succ, List.set_cons_zero]
      simp [bytesZ, List.range_succ]
    repeat' (first | (refine p_val rfl (g_ldI (i := i / 8) rfl hrd (by omega) (by omega)) ?_) | (refine p_val rfl (g_shr_u rfl rfl (by omega)) ?_) | (refine p_val rfl (g_convw_u8 rfl) ?_; rw [hbo]) | refine stP ?_ | (refine p_cmp rfl rfl rfl rfl (fun hc => ?_) (fun hc => ?_) <;> simp only [cmpProp] at hc) | fail)
    refine p_do rfl (d_stI (i := i) rfl rfl h (by omega) hlt) ?_
    rintro _ w ⟨rfl, h⟩
    rw [hset] at h
    repeat' (first | refine stPs ?_ | (refine p_cmp rfl rfl rfl rfl (fun hc => ?_) (fun hc => ?_) <;> simp only [cmpProp] at hc) | fail)
    exact x_keep [0, 1, 6, 24, 25] rfl (ih _ _ _ (by omega) ⟨i + 1, rfl, by omega, rfl, h⟩)
  · obtain rfl : i = 8 * len := by omega
    rw [Nat.sub_self, List.replicate_zero, List.append_nil] at h
    repeat' (first | refine stPs ?_ | (refine p_cmp rfl rfl rfl rfl (fun hc => ?_) (fun hc => ?_) <;> simp only [cmpProp] at hc) | fail)
    · refine x_ret' is_field_Bytes rfl ⟨.inl ⟨_, 4, ?_, rfl, fun hz => by cases hz⟩, h.drop⟩
      rw [fbytesV, if_neg (by omega), if_neg (by omega), if_pos (by omega)]; rfl
    refine p_val rfl (g_slc (l' := n) (h' := 8 * len) rfl rfl rfl rfl rfl (by omega) hcb) ?_
    have hrb : ∀ w, Sat S w (ownS T.uint8 1 (.slice ab (8 * len) cb) (ints .u8 (bytesZ l (8 * len))) :: G) → RdS w 1 (.slice (if cb = n then ab else ab.map (·.add (n * 1))) (8 * len - n) (cb - n)) (ints .u8 ((bytesZ l (8 * len)).drop n)) := by
      intro w h
      have hr0 := (ownS_rd h .here).sub (l' := n) (h' := 8 * len) (by omega) (Nat.le_refl _)
      have e1 : ((ints .u8 (bytesZ l (8 * len))).take (8 * len * 1)).drop (n * 1) = ints .u8 ((bytesZ l (8 * len)).drop n) := by
        rw [Nat.mul_one, Nat.mul_one, List.take_of_length_le (by rw [ints_length, bytesZ_length]; exact Nat.le_refl _)]
        simp [ints]
      rw [e1] at hr0
      exact hr0
    have hdl : ((bytesZ l (8 * len)).drop n).length = 8 * len - n := by rw [List.length_drop, bytesZ_length]
    have hdg : ∀ i, i < 8 * len - n → ((bytesZ l (8 * len)).drop n).getD i 0 = (byteW l (n + i) : Int) := fun i hi => by
      rw [List.getD_eq_getElem?_getD, List.getElem?_drop, ← List.getD_eq_getElem?_getD, bytesZ_get (by omega)]
    generalize hsa : (if cb = n then ab else ab.map (·.add (n * 1))) = av at *
    repeat' (first | refine stPs ?_ | (refine p_cmp rfl rfl rfl rfl (fun hc => ?_) (fun hc => ?_) <;> simp only [cmpProp] at hc) | fail)
    refine x_keep [1, 6, 51, 52, 53] rfl ?_
    refine x_loop_inv (fun lm le w => ∃ (i : Nat), lm = 8 * len - n - i ∧ i ≤ 8 * len - n ∧ (∀ j, j < i → byteW l (n + j) = 0) ∧ le = [(1, .int .i64 n), (6, .slice ab (8 * len) cb), (51, .slice av (8 * len - n) (cb - n)), (52, .int .i64 ((8 * len - n : Nat) : Int)), (53, .int .i64 i)] ∧ Sat S w (ownS T.uint8 1 (.slice ab (8 * len) cb) (ints .u8 (bytesZ l (8 * len))) :: G)) (8 * len - n) ⟨0, rfl, by omega, fun j hj => absurd hj (by omega), rfl, h⟩ ?_
    clear h
    rintro lm le w ⟨i, rfl, hi0, hi1, rfl, h⟩ ih
    by_cases h1 : i < 8 * len - n
    · have hrd := hrb _ h
      obtain ⟨b, o, rfl⟩ := hrd.addr (by omega)
      have hdi := hdg i h1
      have hbl := byteW_lt l (n + i)
      repeat' (first | (refine p_val rfl (g_ldI (i := i) rfl hrd (by omega) (by omega)) ?_; rw [hdi]) | refine stP ?_ | (refine p_cmp rfl rfl rfl rfl (fun hc => ?_) (fun hc => ?_) <;> simp only [cmpProp] at hc) | fail)
      · refine x_ret' is_field_Bytes rfl ⟨.inr ⟨rfl, by omega, by omega, by omega, fun ht => ?_⟩, h.drop⟩
        have := ht (n + i) (by simp) (by omega)
        omega
      · refine x_keep [1, 6, 51, 52, 53] rfl (ih _ _ _ (by omega) ⟨i + 1, rfl, by omega, fun j hj => ?_, rfl, h⟩)
        rcases Nat.lt_or_ge j i with hji | hji
        · exact hi1 j hji
        · obtain rfl : j = i := by omega
          omega
    · obtain rfl : i = 8 * len - n := by omega
      repeat' (first | refine stPs ?_ | (refine p_cmp rfl rfl rfl rfl (fun hc => ?_) (fun hc => ?_) <;> simp only [cmpProp] at hc) | fail)
      refine p_val rfl (g_slc (l' := 0) (h' := n) rfl rfl rfl rfl rfl (by omega) (by omega)) ?_
      have hr0 := (ownS_rd h .here).sub (l' := 0) (h' := n) (by omega) (by omega)
      have e1 : ((ints .u8 (bytesZ l (8 * len))).take (n * 1)).drop (0 * 1) = ints .u8 (bytesZ l n) := by
        have m : min (n * 1) (8 * len) = n := by omega
        simp only [ints, bytesZ, ← List.map_take, List.take_range, Nat.zero_mul, List.drop_zero, m]
      rw [e1] at hr0
      refine p_val rfl (g_b2s rfl hr0) ?_
      repeat' (first | refine stPs ?_ | (refine p_cmp rfl rfl rfl rfl (fun hc => ?_) (fun hc => ?_) <;> simp only [cmpProp] at hc) | fail)
      have ht : tailOk l n := fun j h2 h3 => by
        have := hi1 (j - n) (by omega)
        rwa [show n + (j - n) = j by omega] at this
      refine x_ret' is_field_Bytes rfl ⟨.inl ⟨_, 0, ?_, rfl, fun _ => ht⟩, h.drop⟩
      rw [fbytesV, if_neg (by omega), if_neg (by omega), if_neg (by omega)]
      rfl
end
end Go.Proofs.YtflbfdmmfoigaaaGreat
