/- Layers 4 and 10 (seal, frame): pages are packed. -/
import Derived.Test.YtflbfdmmfoigaaaGreatHxS
import Derived.Test.YtflbfdmmfoigaaaGreatP01s
namespace Go.Proofs.YtflbfdmmfoigaaaGreat
open Go Go.HX
attribute [local irreducible] Ret XRun XOps XDr XOne Does Gives
set_option maxRecDepth 4000
set_option maxHeartbeats 1000000
theorem stC0_P10 {goal next : Prop} (k : next) (hs : Hid next → goal := by (intro k; (first | (refine gC F.seal_Next ?_; refine p_call rfl rfl (seal_Next_spec _ _ ?_ ?_ ?_ h) ?_; iterate 3 (first | assumption | omega | (simp only []; omega) | decide)) | (refine gC F.seal_Sum ?_; refine p_call rfl rfl (seal_Sum_spec _ ?_ h) ?_; iterate 1 (first | assumption | omega | (simp only []; omega) | decide)) | (refine gC F.seal_tail ?_; refine p_call rfl rfl (seal_tail_spec _ ?_ ?_ h) ?_; iterate 2 (first | assumption | omega | (simp only []; omega) | decide)) | (refine gC F.seal_Seal ?_; refine p_call rfl rfl (seal_Seal_spec _ ?_ h) ?_; iterate 1 (first | assumption | omega | (simp only []; omega) | decide)) | fail); exact k.out)) : goal := hs ⟨k⟩
theorem stC1_P10 {goal next : Prop} (k : next) (hs : Hid next → goal := by (intro k; (first | (refine gC F.frame_may ?_; refine p_call rfl rfl (frame_may_spec _ _ h) ?_) | fail); exact k.out)) : goal := hs ⟨k⟩
/-- One bit of a sum. -/
def sealBit (c : Int) : Int := ((shr64 c 1).toNat ^^^ ((14514072000185962306 : Int).toNat &&& ((-((c.toNat &&& (1 : Int).toNat : Nat) : Int)) % 18446744073709551616).toNat) : Nat)
def sealBits : Nat → Int → Int
  | 0, c => c
  | n + 1, c => sealBit (sealBits n c)
/-- The sum of a text's first bytes, turned. -/
def sealTo (c : Int) (s : ByteArray) : Nat → Int
  | 0 => c
  | n + 1 => sealBits 8 (((sealTo c s n).toNat ^^^ (s[n]!).toNat : Nat) : Int)
def nextS (sum : Int) (s : ByteArray) : Int := 18446744073709551615 - sealTo (18446744073709551615 - sum) s s.size
theorem u64_xor {a b : Nat} (h1 : a ≤ 18446744073709551615) (h2 : b ≤ 18446744073709551615) : a ^^^ b ≤ 18446744073709551615 := by
  have := Nat.xor_lt_two_pow (n := 64) (show a < 2 ^ 64 by omega) (show b < 2 ^ 64 by omega)
  omega
theorem shr_one (c : Int) : shr64 c 1 = c / 2 := rfl
theorem u64_andI {a b : Nat} (h1 : a ≤ 18446744073709551615) : (((a &&& b : Nat) : Nat) : Int) ≤ 18446744073709551615 := by
  have : a &&& b ≤ a := Nat.and_le_left
  omega
theorem u64_and {a b : Nat} (h1 : a ≤ 18446744073709551615) : a &&& b ≤ 18446744073709551615 := Nat.le_trans Nat.and_le_left h1
theorem sealBit_bnd (c : Int) (h0 : 0 ≤ c) (h1 : c ≤ 18446744073709551615) : 0 ≤ sealBit c ∧ sealBit c ≤ 18446744073709551615 := by
  unfold sealBit
  refine ⟨Int.natCast_nonneg _, ?_⟩
  have hs : 0 ≤ shr64 c 1 ∧ shr64 c 1 ≤ 18446744073709551615 := by rw [shr_one]; omega
  have : (shr64 c 1).toNat ^^^ ((14514072000185962306 : Int).toNat &&& ((-((c.toNat &&& (1 : Int).toNat : Nat) : Int)) % 18446744073709551616).toNat) ≤ 18446744073709551615 := u64_xor (by omega) (u64_and (by decide))
  omega
theorem sealBits_next (n : Nat) (c : Int) : sealBits (n + 1) c = sealBit (sealBits n c) := rfl
theorem sealBit_eq (c : Int) : sealBit c = (((shr64 c 1).toNat ^^^ ((14514072000185962306 : Int).toNat &&& ((-((c.toNat &&& (1 : Int).toNat : Nat) : Int)) % 18446744073709551616).toNat) : Nat) : Int) := by unfold sealBit; rfl
attribute [local irreducible] sealBit
theorem sealTo_next (c : Int) (s : ByteArray) (n : Nat) : sealTo c s (n + 1) = sealBits 8 (((sealTo c s n).toNat ^^^ (s[n]!).toNat : Nat) : Int) := rfl
theorem sealBits_bnd (c : Int) (h0 : 0 ≤ c) (h1 : c ≤ 18446744073709551615) : ∀ n, 0 ≤ sealBits n c ∧ sealBits n c ≤ 18446744073709551615
  | 0 => ⟨h0, h1⟩
  | n + 1 => sealBit_bnd _ (sealBits_bnd c h0 h1 n).1 (sealBits_bnd c h0 h1 n).2
theorem sealTo_bnd (c : Int) (s : ByteArray) (h0 : 0 ≤ c) (h1 : c ≤ 18446744073709551615) : ∀ n, 0 ≤ sealTo c s n ∧ sealTo c s n ≤ 18446744073709551615
  | 0 => ⟨h0, h1⟩
  | n + 1 => by
    have h := sealTo_bnd c s h0 h1 n
    have hb : (s[n]!).toNat < 256 := UInt8.toNat_lt _
    have hx : (sealTo c s n).toNat ^^^ (s[n]!).toNat ≤ 18446744073709551615 := u64_xor (by omega) (by omega)
    exact sealBits_bnd _ (Int.natCast_nonneg _) (by omega) 8
theorem nextS_bnd (sum : Int) (s : ByteArray) (h0 : 0 ≤ sum) (h1 : sum ≤ 18446744073709551615) : 0 ≤ nextS sum s ∧ nextS sum s ≤ 18446744073709551615 := by
  have := sealTo_bnd (18446744073709551615 - sum) s (by omega) (by omega) s.size
  unfold nextS
  omega
section
variable {P : Program} {fn : FuncId} {N : Nat} {e : Env} {w : World} {x : Operand}
/-- -x of a uint64 -/
theorem g_neg_u {a : Int} (hx : Env.val e x = some (.int .u64 a)) : Gives P N (.un .neg x) e w (.int .u64 ((-a) % 18446744073709551616)) := by
  unfold Gives
  intro o c hc hA
  obtain ⟨yt, ho⟩ := co_un hc
  have h1 : (Op.unary .neg (.int .u64 a)).run P w = .ok (.int .u64 ((-a) % 18446744073709551616)) w := by
    simp [Op.unary, Op.intArith, wrap_u64]
  simp [execOp, ho, hA.val hx, h1]
end
section
variable {S : SP} {w : World} {G : List HProp}
theorem seal_Next_spec (sum : Int) (s : ByteArray) (h0 : 0 ≤ sum) (h1 : sum ≤ 18446744073709551615) (hs : s.size ≤ 1000000) (h : Sat S w G) : Ret Tryz.prog F.seal_Next #[.int .u64 sum, .string s] w (fun v w' => v = .int .u64 (nextS sum s) ∧ Sat S w' G) := by
  refine ret_of is_seal_Next rfl ?_
  have hb := sealTo_bnd (18446744073709551615 - sum) s (by omega) (by omega)
  repeat' (first | refine stPs ?_ | (refine p_cmp rfl rfl rfl rfl (fun hc => ?_) (fun hc => ?_) <;> simp only [cmpProp] at hc) | fail)
  refine x_keep [1, 5, 10, 11] rfl ?_
  refine x_loop_inv (fun lm le w => ∃ (i : Nat), lm = s.size - i ∧ i ≤ s.size ∧ le = [(1, .string s), (5, .int .u64 (sealTo (18446744073709551615 - sum) s i)), (10, .int .i64 s.size), (11, .int .i64 i)] ∧ Sat S w (G)) (s.size) ⟨0, rfl, by omega, rfl, h⟩ ?_
  clear h
  rintro lm le w ⟨i, rfl, hi0, rfl, h⟩ ih
  have hbi := hb i
  by_cases hi : i < s.size
  · have hb8 : (s[i]!).toNat < 256 := UInt8.toNat_lt _
    have hx : (sealTo (18446744073709551615 - sum) s i).toNat ^^^ (s[i]!).toNat ≤ 18446744073709551615 := u64_xor (by omega) (by omega)
    obtain ⟨c, hc9⟩ : ∃ c : Int, c = (((sealTo (18446744073709551615 - sum) s i).toNat ^^^ (s[i]!).toNat : Nat) : Int) := ⟨_, rfl⟩
    have hcb := sealBits_bnd c (by omega) (by omega)
    repeat' (first | (refine p_val (dst := some 17) rfl (g_ixsN (n := i) rfl rfl rfl hi) ?_) | (refine p_val (dst := some 19) rfl (g_xor_u rfl rfl (by omega) (by omega) (by omega) (by omega)) ?_; rw [show (((s[i]!).toNat : Nat) : Int).toNat = (s[i]!).toNat from Int.toNat_natCast _, ← hc9]) | refine stP ?_ | (refine p_cmp rfl rfl rfl rfl (fun hc => ?_) (fun hc => ?_) <;> simp only [cmpProp] at hc) | fail)
    refine x_keep [1, 5, 10, 11, 20] rfl ?_
    refine x_loop_inv (fun lm le w => ∃ (k : Nat), lm = 8 - k ∧ k ≤ 8 ∧ le = [(1, .string s), (5, .int .u64 (sealBits k c)), (10, .int .i64 s.size), (11, .int .i64 i), (20, .int .i64 k)] ∧ Sat S w (G)) (8) ⟨0, rfl, by omega, rfl, h⟩ ?_
    clear h
    rintro lm le w ⟨k, rfl, hi0, rfl, h⟩ ih2
    have hck := hcb k
    by_cases hk : k < 8
    · have hsh : 0 ≤ shr64 (sealBits k c) 1 ∧ shr64 (sealBits k c) 1 ≤ 18446744073709551615 := by
        rw [shr_one]
        omega
      repeat' (first | (refine p_val (dst := some 23) rfl (g_shr_u rfl rfl (by decide)) ?_) | (refine p_val (dst := some 25) rfl (g_and_u rfl rfl (by omega) (by omega) (by decide) (by decide)) ?_) | (refine p_val (dst := some 26) rfl (g_neg_u rfl) ?_) | (refine p_val (dst := some 27) rfl (g_and_u rfl rfl (by decide) (by decide) (by omega) (by omega)) ?_) | (refine p_val (dst := some 28) rfl (g_xor_u rfl rfl (by omega) (by omega) (by omega) (u64_andI (by decide))) ?_; simp only [Int.toNat_natCast]; rw [← sealBit_eq]) | refine stP ?_ | (refine p_cmp rfl rfl rfl rfl (fun hc => ?_) (fun hc => ?_) <;> simp only [cmpProp] at hc) | fail)
      exact x_keep [1, 5, 10, 11, 20] rfl (ih2 _ _ _ (by omega) ⟨k + 1, rfl, by omega, by rw [sealBits_next]; rfl, h⟩)
    · obtain rfl : k = 8 := by omega
      have e : sealTo (18446744073709551615 - sum) s (i + 1) = sealBits 8 c := by rw [sealTo_next, hc9]
      repeat' (first | refine stPs ?_ | (refine p_cmp rfl rfl rfl rfl (fun hc => ?_) (fun hc => ?_) <;> simp only [cmpProp] at hc) | fail)
      exact x_keep [1, 5, 10, 11] rfl (ih _ _ _ (by omega) ⟨i + 1, rfl, by omega, by rw [e]; rfl, h⟩)
  · obtain rfl : i = s.size := by omega
    repeat' (first | refine stPs ?_ | (refine p_cmp rfl rfl rfl rfl (fun hc => ?_) (fun hc => ?_) <;> simp only [cmpProp] at hc) | fail)
    exact x_ret' is_seal_Next rfl ⟨rfl, h⟩
theorem seal_Sum_spec (s : ByteArray) (hs : s.size ≤ 1000000) (h : Sat S w G) : Ret Tryz.prog F.seal_Sum #[.string s] w (fun v w' => v = .int .u64 (nextS 0 s) ∧ Sat S w' G) := by
  refine ret_of is_seal_Sum rfl ?_
  repeat' (first | (refine gC F.seal_Next ?_; refine p_call rfl rfl (seal_Next_spec 0 s (by decide) (by decide) hs h) ?_; rintro _ w ⟨rfl, h⟩) | refine stP ?_ | (refine stC0_P10 ?_; rintro _ w ⟨rfl, h⟩) | fail)
  exact x_ret' is_seal_Sum rfl ⟨rfl, h⟩
theorem tail_all (l : List Int) : tailOk l (8 * l.length) := fun i h1 h2 => by omega
/-- Words as bytes. -/
def wordsS (l : List Int) : ByteArray := strOfNums (bytesZ l (8 * l.length))
theorem wordsS_size (l : List Int) : (wordsS l).size = 8 * l.length := by
  unfold wordsS
  rw [strOfNums_size, bytesZ_length]
theorem fbytes_all (l : List Int) : fbytesV l (8 * l.length : Nat) = (wordsS l, 0) := by
  unfold fbytesV wordsS
  rw [if_neg (by omega), if_neg (by omega), if_neg (by omega), Int.toNat_natCast]
theorem field_Bytes_all {v : Value} (l : List Int) (hl : l.length ≤ 100000) (hb : ∀ i, 0 ≤ l.getD i 0 ∧ l.getD i 0 ≤ 18446744073709551615) (hr : ∀ w, Sat S w G → RdS w 1 v (ints .u64 l)) (h : Sat S w G) :
    Ret Tryz.prog F.field_Bytes #[v, .int .i64 (8 * l.length : Nat)] w (fun v w' => v = .tuple #[.string (wordsS l), .int .i64 0] ∧ Sat S w' G) := by
  refine (field_Bytes_spec l (8 * l.length : Nat) (by omega) hb hr h).mono ?_
  rintro v w ⟨(⟨s, z, e, rfl, _⟩ | ⟨_, _, _, _, hn⟩), h⟩
  · rw [fbytes_all] at e
    injection e with e1 e2
    subst e1 e2
    exact ⟨rfl, h⟩
  · rw [Int.toNat_natCast] at hn
    exact absurd (tail_all l) hn
def packS (page : Int) (l : List Int) : ByteArray := (wordsS [page, (l.length : Int)] ++ wordsS l) ++ wordsS [nextS 0 (wordsS [page, (l.length : Int)] ++ wordsS l)]
theorem packS_size (page : Int) (l : List Int) : (packS page l).size = 24 + 8 * l.length := by
  unfold packS
  rw [ByteArray.size_append, ByteArray.size_append, wordsS_size, wordsS_size, wordsS_size]
  simp only [List.length_cons, List.length_nil]
  omega
theorem getD_one {z : Int} (h0 : 0 ≤ z) (h1 : z ≤ 18446744073709551615) : ∀ i, 0 ≤ ([z] : List Int).getD i 0 ∧ ([z] : List Int).getD i 0 ≤ 18446744073709551615
  | 0 => ⟨h0, h1⟩
  | i + 1 => by simp
theorem getD_two {y z : Int} (h0 : 0 ≤ y) (h1 : y ≤ 18446744073709551615) (h2 : 0 ≤ z) (h3 : z ≤ 18446744073709551615) : ∀ i, 0 ≤ ([y, z] : List Int).getD i 0 ∧ ([y, z] : List Int).getD i 0 ≤ 18446744073709551615
  | 0 => ⟨h0, h1⟩
  | 1 => ⟨h2, h3⟩
  | i + 2 => by simp
theorem seal_tail_spec (z : Int) (h0 : 0 ≤ z) (h1 : z ≤ 18446744073709551615) (h : Sat S w G) : Ret Tryz.prog F.seal_tail #[.int .u64 z] w (fun v w' => v = .string (wordsS [z]) ∧ Sat S w' G) := by
  refine ret_of is_seal_tail rfl ?_
  repeat' (first | (refine p_do (dst := some 7) rfl (d_lit (ints .u64 [z]) rfl rfl rfl rfl rfl h) ?_; intro v9 w h) | (refine gC F.field_Bytes ?_; refine p_call rfl rfl (field_Bytes_all [z] (by simp) (getD_one h0 h1) (fun w h => ownS_rd h .here) h) ?_; rintro _ w ⟨rfl, h⟩) | refine stP ?_ | fail)
  exact x_ret' is_seal_tail rfl ⟨rfl, h.drop⟩
theorem seal_Seal_spec (s : ByteArray) (hs : s.size ≤ 1000000) (h : Sat S w G) : Ret Tryz.prog F.seal_Seal #[.string s] w (fun v w' => v = .string (s ++ wordsS [nextS 0 s]) ∧ Sat S w' G) := by
  have hb := nextS_bnd 0 s (by decide) (by decide)
  have hz : s.size + (wordsS [nextS 0 s]).size ≤ 9223372036854775807 := by
    rw [wordsS_size]
    simp only [List.length_cons, List.length_nil]
    omega
  refine ret_of is_seal_Seal rfl ?_
  repeat' (first | (refine gC F.seal_Sum ?_; refine p_call rfl rfl (seal_Sum_spec s hs h) ?_; rintro _ w ⟨rfl, h⟩) | (refine gC F.seal_tail ?_; refine p_call rfl rfl (seal_tail_spec (nextS 0 s) hb.1 hb.2 h) ?_; rintro _ w ⟨rfl, h⟩) | (refine p_val (dst := some 7) rfl (g_sadd rfl rfl hz) ?_) | refine stP ?_ | (refine stC0_P10 ?_; rintro _ w ⟨rfl, h⟩) | fail)
  exact x_ret' is_seal_Seal rfl ⟨rfl, h⟩
def mayF (page n : Int) : Prop := 0 ≤ page ∧ page < 64 ∧ 1 ≤ n ∧ n ≤ 512
instance (page n : Int) : Decidable (mayF page n) := by unfold mayF; infer_instance
theorem frame_may_spec (p n : Int) (h : Sat S w G) : Ret Tryz.prog F.frame_may #[.int .i64 p, .int .i64 n] w (fun v w' => BoolIs v (mayF p n) ∧ Sat S w' G) := by
  refine ret_of is_frame_may rfl ?_
  repeat' (first | refine stPs ?_ | (refine p_cmp rfl rfl rfl rfl (fun hc => ?_) (fun hc => ?_) <;> simp only [cmpProp] at hc) | fail)
  all_goals refine x_ret' is_frame_may rfl ⟨?_, h⟩
  all_goals unfold mayF
  all_goals first | exact .t (by omega) | exact .f (by omega)
theorem frame_text_spec {v : Value} (l : List Int) (hl : l.length ≤ 1000) (hb : ∀ i, 0 ≤ l.getD i 0 ∧ l.getD i 0 ≤ 18446744073709551615) (hr : ∀ w, Sat S w G → RdS w 1 v (ints .u64 l)) (h : Sat S w G) : Ret Tryz.prog F.frame_text #[v] w (fun v w' => v = .string (wordsS l) ∧ Sat S w' G) := by
  obtain ⟨va, vl, vc, rfl, _⟩ := hr w h
  have hvl := (hr w h).ilen
  have e8 : (8 : Int) * (vl : Int) = ((8 * l.length : Nat) : Int) := by omega
  refine ret_of is_frame_text rfl ?_
  repeat' (first | (refine p_val (dst := some 9) rfl (g_mul_i rfl rfl (by omega) (by omega)) ?_; rw [e8]) | (refine gC F.field_Bytes ?_; refine p_call rfl rfl (field_Bytes_all l (by omega) hb hr h) ?_; rintro _ w ⟨rfl, h⟩) | refine stP ?_ | fail)
  exact x_ret' is_frame_text rfl ⟨rfl, h⟩
def packR (page : Int) (l : List Int) : ByteArray × Int := if mayF page l.length then (packS page l, 0) else (⟨#[]⟩, 1)
theorem frame_Pack_spec {v : Value} (page : Int) (l : List Int) (hl : l.length ≤ 1000) (hb : ∀ i, 0 ≤ l.getD i 0 ∧ l.getD i 0 ≤ 18446744073709551615) (hr : ∀ w, Sat S w G → RdS w 1 v (ints .u64 l)) (h : Sat S w G) : Ret Tryz.prog F.frame_Pack #[.int .i64 page, v] w (fun v w' => v = .tuple #[.string (packR page l).1, .int .i64 (packR page l).2] ∧ Sat S w' G) := by
  obtain ⟨va, vl, vc, rfl, _⟩ := hr w h
  have hvl := (hr w h).ilen
  unfold packR
  refine ret_of is_frame_Pack rfl ?_
  by_cases hm : mayF page l.length
  · have hm2 := hm
    obtain ⟨m0, m1, m2, m3⟩ := hm2
    rw [if_pos hm]
    have hz1 : (wordsS [page, (l.length : Int)]).size + (wordsS l).size ≤ 9223372036854775807 := by
      rw [wordsS_size, wordsS_size]
      simp only [List.length_cons, List.length_nil]
      omega
    have hz2 : (wordsS [page, (l.length : Int)] ++ wordsS l).size ≤ 1000000 := by
      rw [ByteArray.size_append, wordsS_size, wordsS_size]
      simp only [List.length_cons, List.length_nil]
      omega
    subst hvl
    have hb2 := getD_two (y := page) (z := (l.length : Int)) m0 (by omega) (by omega) (by omega)
    repeat' (first | contradiction | (refine gC F.frame_may ?_; refine p_call rfl rfl (frame_may_spec page l.length h) ?_; rintro _ w ⟨(⟨rfl, hb1⟩ | ⟨rfl, hb1⟩), h⟩; rotate_left; exact absurd hm hb1) | (refine p_do (dst := some 16) rfl (d_lit (ints .u64 [page, (l.length : Int)]) rfl rfl rfl rfl rfl h) ?_; intro v9 w h) | (refine gC F.frame_text ?_; first | (refine p_call (dst := some 17) rfl rfl (frame_text_spec [page, (l.length : Int)] (by simp) hb2 (fun w h => ownS_rd h .here) h) ?_; rintro _ w ⟨rfl, h⟩) | (refine p_call (dst := some 19) rfl rfl (frame_text_spec l hl hb (fun w h => hr w h.drop) h) ?_; rintro _ w ⟨rfl, h⟩)) | (refine p_val (dst := some 20) rfl (g_sadd rfl rfl hz1) ?_) | (refine gC F.seal_Seal ?_; refine p_call rfl rfl (seal_Seal_spec _ hz2 h) ?_; rintro _ w ⟨rfl, h⟩) | refine stP ?_ | (refine stC1_P10 ?_; rintro _ w ⟨(⟨rfl, hb⟩ | ⟨rfl, hb⟩), h⟩) | (refine stC0_P10 ?_; rintro _ w ⟨rfl, h⟩) | fail)
    exact x_ret' is_frame_Pack rfl ⟨rfl, h.drop⟩
  · rw [if_neg hm]
    repeat' (first | contradiction | (refine gC F.frame_may ?_; refine p_call rfl rfl (frame_may_spec page vl h) ?_; rintro _ w ⟨(⟨rfl, hb1⟩ | ⟨rfl, hb1⟩), h⟩; exact absurd (by rw [hvl]; exact hb1) hm) | refine stP ?_ | (refine stC1_P10 ?_; rintro _ w ⟨(⟨rfl, hb⟩ | ⟨rfl, hb⟩), h⟩) | (refine stC0_P10 ?_; rintro _ w ⟨rfl, h⟩) | fail)
    exact x_ret' is_frame_Pack rfl ⟨rfl, h⟩
end
end Go.Proofs.YtflbfdmmfoigaaaGreat
