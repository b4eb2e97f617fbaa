/- HX, part D: arithmetic, comparisons, conversions. -/
import Derived.Test.YtjoicobfjpaepaaHxC
namespace Go.HX
open Go

def cmpProp : BinOp → Int → Int → Prop
  | .eql, a, b => a = b
  | .neq, a, b => a ≠ b
  | .lss, a, b => a < b
  | .leq, a, b => a ≤ b
  | .gtr, a, b => b < a
  | .geq, a, b => b ≤ a
  | _, _, _ => False
def isCmp : BinOp → Bool
  | .eql | .neq | .lss | .leq | .gtr | .geq => true
  | _ => false
instance (op : BinOp) (a b : Int) : Decidable (cmpProp op a b) := by
  cases op <;> unfold cmpProp <;> infer_instance

section
variable {P : Program} {fn : FuncId} {N : Nat} {e : Env} {w : World} {Q : Value → World → Prop} {k : List XI} {l : List XOp}
variable {t : TypeId} {x y : Operand} {a b : Int} {kd : IntKind} {op : BinOp}

theorem bin_run (hx : Env.val e x = some (.int kd a)) (hy : Env.val e y = some (.int kd b)) {v : Value} (hns : op ≠ .shl ∧ op ≠ .shr)
    (h : ∀ w : World, (match op with
    | .add | .sub | .mul => Op.intArith op kd a b
    | .quo | .rem => Op.intDiv op kd a b
    | .and | .or | .xor | .andNot => Op.intBits op kd a b
    | _ => Op.intCmp op a b).run P w = .ok v w) : Gives P N (.bin op t x y) e w v := by
  intro o c hc hA
  obtain ⟨yt, ho⟩ := co_bin hc
  have h2 := h w
  have hb : (binOp op t (.int kd a) (.int kd b)).run P w = .ok v w := by
    cases op <;> simp only [binOp, ne_eq, not_true_eq_false, if_false] at h2 ⊢ <;> first | exact h2 | simp_all
  have hg : (eqGuard op t x y (.int kd a) (.int kd b)).run P w = .ok () w := by
    cases op <;> simp [eqGuard]
  simp [execOp, ho, hA.val hx, hA.val hy, hg, hb]

theorem g_cmp (hx : Env.val e x = some (.int kd a)) (hy : Env.val e y = some (.int kd b)) (hop : isCmp op = true) : Gives P N (.bin op t x y) e w (.bool (decide (cmpProp op a b))) :=
  bin_run hx hy (by cases op <;> simp_all [isCmp]) (fun w => by
    cases op <;> simp_all [isCmp, Op.intCmp, cmpProp]
    · by_cases h : a = b <;> simp [h]
    · by_cases h : a = b <;> simp [h])

variable {dst : Option Nat} {g : Option (Nat × Bool)}
theorem p_cmp_t (hg : wantedE e g = some true) (hx : Env.val e x = some (.int kd a)) (hy : Env.val e y = some (.int kd b)) (hop : isCmp op = true) (hp : cmpProp op a b)
    (h : XOps P fn N l k (Env.put e dst (.bool true)) w Q) : XOps P fn N (⟨dst, g, .bin op t x y⟩ :: l) k e w Q :=
  p_val hg (g_cmp hx hy hop) (by rw [decide_eq_true hp]; exact h)
theorem p_cmp_f (hg : wantedE e g = some true) (hx : Env.val e x = some (.int kd a)) (hy : Env.val e y = some (.int kd b)) (hop : isCmp op = true) (hp : ¬ cmpProp op a b)
    (h : XOps P fn N l k (Env.put e dst (.bool false)) w Q) : XOps P fn N (⟨dst, g, .bin op t x y⟩ :: l) k e w Q :=
  p_val hg (g_cmp hx hy hop) (by rw [decide_eq_false hp]; exact h)
theorem p_cmp (hg : wantedE e g = some true) (hx : Env.val e x = some (.int kd a)) (hy : Env.val e y = some (.int kd b)) (hop : isCmp op = true)
    (h1 : cmpProp op a b → XOps P fn N l k (Env.put e dst (.bool true)) w Q) (h2 : ¬ cmpProp op a b → XOps P fn N l k (Env.put e dst (.bool false)) w Q) : XOps P fn N (⟨dst, g, .bin op t x y⟩ :: l) k e w Q := by
  by_cases hp : cmpProp op a b
  · exact p_cmp_t hg hx hy hop hp (h1 hp)
  · exact p_cmp_f hg hx hy hop hp (h2 hp)

theorem wrap_i64_in {n : Int} (h1 : -9223372036854775808 ≤ n) (h2 : n ≤ 9223372036854775807) : IntKind.i64.wrap n = n := by
  rw [IntKind.wrap_i64]; omega
theorem wrap_u64 (n : Int) : IntKind.u64.wrap n = n % 18446744073709551616 := by
  unfold IntKind.wrap; simp [IntKind.bits, IntKind.signed]
theorem wrap_u64_in {n : Int} (h1 : 0 ≤ n) (h2 : n ≤ 18446744073709551615) : IntKind.u64.wrap n = n := by
  rw [wrap_u64]; omega
theorem wrap_u8 (n : Int) : IntKind.u8.wrap n = n % 256 := by
  unfold IntKind.wrap; simp [IntKind.bits, IntKind.signed]

/-- int: a sum that fits. -/
theorem g_add_i (hx : Env.val e x = some (.int .i64 a)) (hy : Env.val e y = some (.int .i64 b)) (h1 : -9223372036854775808 ≤ a + b) (h2 : a + b ≤ 9223372036854775807) : Gives P N (.bin .add t x y) e w (.int .i64 (a + b)) :=
  bin_run hx hy (by simp) (fun w => by simp [Op.intArith, wrap_i64_in h1 h2])
theorem g_sub_i (hx : Env.val e x = some (.int .i64 a)) (hy : Env.val e y = some (.int .i64 b)) (h1 : -9223372036854775808 ≤ a - b) (h2 : a - b ≤ 9223372036854775807) : Gives P N (.bin .sub t x y) e w (.int .i64 (a - b)) :=
  bin_run hx hy (by simp) (fun w => by simp [Op.intArith, wrap_i64_in h1 h2])
theorem g_mul_i (hx : Env.val e x = some (.int .i64 a)) (hy : Env.val e y = some (.int .i64 b)) (h1 : -9223372036854775808 ≤ a * b) (h2 : a * b ≤ 9223372036854775807) : Gives P N (.bin .mul t x y) e w (.int .i64 (a * b)) :=
  bin_run hx hy (by simp) (fun w => by simp [Op.intArith, wrap_i64_in h1 h2])
theorem g_quo_i (hx : Env.val e x = some (.int .i64 a)) (hy : Env.val e y = some (.int .i64 b)) (h0 : 0 ≤ a) (h1 : a ≤ 9223372036854775807) (h2 : 0 < b) : Gives P N (.bin .quo t x y) e w (.int .i64 (a / b)) :=
  bin_run hx hy (by simp) (fun w => by
    have hb : ¬ b = 0 := by omega
    have h3 : a / b ≤ a := Int.ediv_le_self b h0
    have h4 : 0 ≤ a / b := Int.ediv_nonneg h0 (by omega)
    simp [Op.intDiv, hb, Int.tdiv_eq_ediv_of_nonneg h0, wrap_i64_in (n := a / b) (by omega) (by omega)])
theorem g_rem_i (hx : Env.val e x = some (.int kd a)) (hy : Env.val e y = some (.int kd b)) (h0 : 0 ≤ a) (h2 : 0 < b) : Gives P N (.bin .rem t x y) e w (.int kd (a % b)) :=
  bin_run hx hy (by simp) (fun w => by
    have hb : ¬ b = 0 := by omega
    simp [Op.intDiv, hb, Int.tmod_eq_emod_of_nonneg h0])
/-- uint64 -/
theorem g_add_u (hx : Env.val e x = some (.int .u64 a)) (hy : Env.val e y = some (.int .u64 b)) (h1 : 0 ≤ a + b) (h2 : a + b ≤ 18446744073709551615) : Gives P N (.bin .add t x y) e w (.int .u64 (a + b)) :=
  bin_run hx hy (by simp) (fun w => by simp [Op.intArith, wrap_u64_in h1 h2])
theorem g_sub_u (hx : Env.val e x = some (.int .u64 a)) (hy : Env.val e y = some (.int .u64 b)) (h1 : 0 ≤ a - b) (h2 : a - b ≤ 18446744073709551615) : Gives P N (.bin .sub t x y) e w (.int .u64 (a - b)) :=
  bin_run hx hy (by simp) (fun w => by simp [Op.intArith, wrap_u64_in h1 h2])
theorem g_mul_u (hx : Env.val e x = some (.int .u64 a)) (hy : Env.val e y = some (.int .u64 b)) (h1 : 0 ≤ a * b) (h2 : a * b ≤ 18446744073709551615) : Gives P N (.bin .mul t x y) e w (.int .u64 (a * b)) :=
  bin_run hx hy (by simp) (fun w => by simp [Op.intArith, wrap_u64_in h1 h2])
theorem g_addw_u (hx : Env.val e x = some (.int .u64 a)) (hy : Env.val e y = some (.int .u64 b)) : Gives P N (.bin .add t x y) e w (.int .u64 ((a + b) % 18446744073709551616)) :=
  bin_run hx hy (by simp) (fun w => by simp [Op.intArith, wrap_u64])
theorem g_subw_u (hx : Env.val e x = some (.int .u64 a)) (hy : Env.val e y = some (.int .u64 b)) : Gives P N (.bin .sub t x y) e w (.int .u64 ((a - b) % 18446744073709551616)) :=
  bin_run hx hy (by simp) (fun w => by simp [Op.intArith, wrap_u64])
theorem g_mulw_u (hx : Env.val e x = some (.int .u64 a)) (hy : Env.val e y = some (.int .u64 b)) : Gives P N (.bin .mul t x y) e w (.int .u64 ((a * b) % 18446744073709551616)) :=
  bin_run hx hy (by simp) (fun w => by simp [Op.intArith, wrap_u64])
theorem g_quo_u (hx : Env.val e x = some (.int .u64 a)) (hy : Env.val e y = some (.int .u64 b)) (h0 : 0 ≤ a) (h1 : a ≤ 18446744073709551615) (h2 : 0 < b) : Gives P N (.bin .quo t x y) e w (.int .u64 (a / b)) :=
  bin_run hx hy (by simp) (fun w => by
    have hb : ¬ b = 0 := by omega
    have h3 : a / b ≤ a := Int.ediv_le_self b h0
    have h4 : 0 ≤ a / b := Int.ediv_nonneg h0 (by omega)
    simp [Op.intDiv, hb, Int.tdiv_eq_ediv_of_nonneg h0, wrap_u64_in (n := a / b) (by omega) (by omega)])

/-- wrapped int -/
theorem g_addw_i (hx : Env.val e x = some (.int .i64 a)) (hy : Env.val e y = some (.int .i64 b)) : Gives P N (.bin .add t x y) e w (.int .i64 (RowKit.wrap64 (a + b))) :=
  bin_run hx hy (by simp) (fun w => by simp [Op.intArith, IntKind.wrap_i64, RowKit.wrap64])
theorem g_subw_i (hx : Env.val e x = some (.int .i64 a)) (hy : Env.val e y = some (.int .i64 b)) : Gives P N (.bin .sub t x y) e w (.int .i64 (RowKit.wrap64 (a - b))) :=
  bin_run hx hy (by simp) (fun w => by simp [Op.intArith, IntKind.wrap_i64, RowKit.wrap64])

/-! bits of a uint64, as numbers -/
theorem ofInt_toNat64 {a : Int} (h0 : 0 ≤ a) (h1 : a ≤ 18446744073709551615) : (BitVec.ofInt 64 a).toNat = a.toNat := by
  rw [BitVec.toNat_ofInt]
  congr 1
  simp
  omega
theorem g_and_u (hx : Env.val e x = some (.int .u64 a)) (hy : Env.val e y = some (.int .u64 b)) (a0 : 0 ≤ a) (a1 : a ≤ 18446744073709551615) (b0 : 0 ≤ b) (b1 : b ≤ 18446744073709551615) : Gives P N (.bin .and t x y) e w (.int .u64 ((a.toNat &&& b.toNat : Nat) : Int)) :=
  bin_run hx hy (by simp) (fun w => by
    have h3 : a.toNat &&& b.toNat < 2 ^ 64 := Nat.and_lt_two_pow _ (by omega)
    have hh : (BitVec.ofInt 64 a &&& BitVec.ofInt 64 b).toNat = a.toNat &&& b.toNat := by rw [BitVec.toNat_and, ofInt_toNat64 a0 a1, ofInt_toNat64 b0 b1]
    show Result.ok (Value.int .u64 (IntKind.u64.wrap ((BitVec.ofInt 64 a &&& BitVec.ofInt 64 b).toNat : Int))) w = _
    rw [hh, wrap_u64_in (by omega) (by omega)])
theorem g_or_u (hx : Env.val e x = some (.int .u64 a)) (hy : Env.val e y = some (.int .u64 b)) (a0 : 0 ≤ a) (a1 : a ≤ 18446744073709551615) (b0 : 0 ≤ b) (b1 : b ≤ 18446744073709551615) : Gives P N (.bin .or t x y) e w (.int .u64 ((a.toNat ||| b.toNat : Nat) : Int)) :=
  bin_run hx hy (by simp) (fun w => by
    have h3 : a.toNat ||| b.toNat < 2 ^ 64 := Nat.or_lt_two_pow (by omega) (by omega)
    have hh : (BitVec.ofInt 64 a ||| BitVec.ofInt 64 b).toNat = a.toNat ||| b.toNat := by rw [BitVec.toNat_or, ofInt_toNat64 a0 a1, ofInt_toNat64 b0 b1]
    show Result.ok (Value.int .u64 (IntKind.u64.wrap ((BitVec.ofInt 64 a ||| BitVec.ofInt 64 b).toNat : Int))) w = _
    rw [hh, wrap_u64_in (by omega) (by omega)])
theorem g_xor_u (hx : Env.val e x = some (.int .u64 a)) (hy : Env.val e y = some (.int .u64 b)) (a0 : 0 ≤ a) (a1 : a ≤ 18446744073709551615) (b0 : 0 ≤ b) (b1 : b ≤ 18446744073709551615) : Gives P N (.bin .xor t x y) e w (.int .u64 ((a.toNat ^^^ b.toNat : Nat) : Int)) :=
  bin_run hx hy (by simp) (fun w => by
    have h3 : a.toNat ^^^ b.toNat < 2 ^ 64 := Nat.xor_lt_two_pow (by omega) (by omega)
    have hh : (BitVec.ofInt 64 a ^^^ BitVec.ofInt 64 b).toNat = a.toNat ^^^ b.toNat := by rw [BitVec.toNat_xor, ofInt_toNat64 a0 a1, ofInt_toNat64 b0 b1]
    show Result.ok (Value.int .u64 (IntKind.u64.wrap ((BitVec.ofInt 64 a ^^^ BitVec.ofInt 64 b).toNat : Int))) w = _
    rw [hh, wrap_u64_in (by omega) (by omega)])
theorem g_andNot_u (hx : Env.val e x = some (.int .u64 a)) (hy : Env.val e y = some (.int .u64 b)) (a0 : 0 ≤ a) (a1 : a ≤ 18446744073709551615) (b0 : 0 ≤ b) (b1 : b ≤ 18446744073709551615) : Gives P N (.bin .andNot t x y) e w (.int .u64 ((a.toNat &&& (18446744073709551615 - b.toNat) : Nat) : Int)) :=
  bin_run hx hy (by simp) (fun w => by
    have h3 : a.toNat &&& (18446744073709551615 - b.toNat) < 2 ^ 64 := Nat.and_lt_two_pow _ (by omega)
    have hh : (BitVec.ofInt 64 a &&& ~~~BitVec.ofInt 64 b).toNat = a.toNat &&& (18446744073709551615 - b.toNat) := by
      rw [BitVec.toNat_and, BitVec.toNat_not, ofInt_toNat64 a0 a1, ofInt_toNat64 b0 b1]
    show Result.ok (Value.int .u64 (IntKind.u64.wrap ((BitVec.ofInt 64 a &&& ~~~BitVec.ofInt 64 b).toNat : Int))) w = _
    rw [hh, wrap_u64_in (by omega) (by omega)])
/-- ^x of a uint64 -/
theorem g_com_u (hx : Env.val e x = some (.int .u64 a)) (a0 : 0 ≤ a) (a1 : a ≤ 18446744073709551615) : Gives P N (.un .xor x) e w (.int .u64 (18446744073709551615 - a)) := by
  intro o c hc hA
  obtain ⟨yt, ho⟩ := co_un hc
  have h1 : (Op.unary .xor (.int .u64 a)).run P w = .ok (.int .u64 (18446744073709551615 - a)) w := by
    have h2 : (BitVec.ofInt 64 18446744073709551615 ^^^ BitVec.ofInt 64 a).toNat = 18446744073709551615 - a.toNat := by
      rw [show (BitVec.ofInt 64 (18446744073709551615 : Int)) = BitVec.allOnes 64 by decide]
      rw [BitVec.allOnes_xor, BitVec.toNat_not, ofInt_toNat64 a0 a1]
    show Result.ok (Value.int .u64 (IntKind.u64.wrap ((BitVec.ofInt 64 18446744073709551615 ^^^ BitVec.ofInt 64 a).toNat : Int))) w = _
    rw [h2, wrap_u64_in (by omega) (by omega)]
    congr 2
    omega
  simp [execOp, ho, hA.val hx, h1]

/-- shifts of a uint64 -/
def shl64 (a n : Int) : Int := (a * 2 ^ min n.toNat 64) % 18446744073709551616
def shr64 (a n : Int) : Int := a / 2 ^ min n.toNat 64
theorem g_shl_u {k2 : IntKind} (hx : Env.val e x = some (.int .u64 a)) (hy : Env.val e y = some (.int k2 b)) (b0 : 0 ≤ b) : Gives P N (.bin .shl t x y) e w (.int .u64 (shl64 a b)) := by
  intro o c hc hA
  obtain ⟨yt, ho⟩ := co_bin hc
  have hb : ¬ b < 0 := by omega
  simp [execOp, ho, hA.val hx, hA.val hy, eqGuard, binOp, Op.shift, hb, wrap_u64, shl64, IntKind.bits]
theorem g_shr_u {k2 : IntKind} (hx : Env.val e x = some (.int .u64 a)) (hy : Env.val e y = some (.int k2 b)) (b0 : 0 ≤ b) : Gives P N (.bin .shr t x y) e w (.int .u64 (shr64 a b)) := by
  intro o c hc hA
  obtain ⟨yt, ho⟩ := co_bin hc
  have hb : ¬ b < 0 := by omega
  have hp : (0 : Int) ≤ 2 ^ min b.toNat 64 := Int.pow_nonneg (by decide)
  simp [execOp, ho, hA.val hx, hA.val hy, eqGuard, binOp, Op.shift, hb, shr64, IntKind.bits, Int.fdiv_eq_ediv_of_nonneg _ hp]

/-! conversions of whole numbers -/
theorem conv_run {kd' : IntKind} {v : Int} (hx : Env.val e x = some (.int kd a)) (h : kd'.wrap a = v) : Gives P N (.conv kd' x) e w (.int kd' v) := by
  intro o c hc hA
  obtain ⟨s, d, k', ho, h1, h2⟩ := co_conv hc
  simp [execOp, ho, hA.val hx, convert, run_underlying (int_und h1), run_underlying (int_und h2), Conv.intToInt, h]
theorem g_conv_i (hx : Env.val e x = some (.int kd a)) (h1 : -9223372036854775808 ≤ a) (h2 : a ≤ 9223372036854775807) : Gives P N (.conv .i64 x) e w (.int .i64 a) := conv_run hx (wrap_i64_in h1 h2)
theorem g_convw_i (hx : Env.val e x = some (.int kd a)) : Gives P N (.conv .i64 x) e w (.int .i64 (RowKit.wrap64 a)) := conv_run hx (by rw [IntKind.wrap_i64, RowKit.wrap64])
theorem g_conv_u (hx : Env.val e x = some (.int kd a)) (h1 : 0 ≤ a) (h2 : a ≤ 18446744073709551615) : Gives P N (.conv .u64 x) e w (.int .u64 a) := conv_run hx (wrap_u64_in h1 h2)
theorem g_convw_u (hx : Env.val e x = some (.int kd a)) : Gives P N (.conv .u64 x) e w (.int .u64 (a % 18446744073709551616)) := conv_run hx (wrap_u64 a)
theorem g_convw_u8 (hx : Env.val e x = some (.int kd a)) : Gives P N (.conv .u8 x) e w (.int .u8 (a % 256)) := conv_run hx (wrap_u8 a)

/-! a slice's element's place -/
theorem g_idx {i : Operand} {s : Nat} {bk of len cap : Nat} {j : Int} {kd : IntKind} (hx : Env.val e x = some (.slice (some ⟨bk, of, none⟩) len cap)) (hi : Env.val e i = some (.int kd j)) (h0 : 0 ≤ j) (h1 : j < len) :
    Gives P N (.idx x i s) e w (.pointer (some ⟨bk, of + j.toNat * s, none⟩)) := by
  intro o c hc hA
  obtain ⟨t, el, ho, he, hs⟩ := co_idx hc
  simp [execOp, ho, hA.val hx, hA.val hi, Instr.indexAt, asIntOf, run_underlying (elem_und he), h0, h1, size_run hs, addr_add]
/-- a byte of a string -/
theorem g_ixs {i : Operand} {s : ByteArray} {j : Int} {kd : IntKind} (hx : Env.val e x = some (.string s)) (hi : Env.val e i = some (.int kd j)) (h0 : 0 ≤ j) (h1 : j < s.size) :
    Gives P N (.ixs x i) e w (.int .u8 ((s[j.toNat]!).toNat : Nat)) := by
  intro o c hc hA
  obtain ⟨t, ho, hs⟩ := co_ixs hc
  have hlt : j.toNat < s.size := by omega
  simp [execOp, ho, hA.val hx, hA.val hi, Instr.index, asIntOf, run_underlying (str_und hs), h0, getElem?_pos s j.toNat hlt, getElem!_pos s j.toNat hlt]
theorem g_ixsN {i : Operand} {s : ByteArray} {j : Int} {n : Nat} {kd : IntKind} (hx : Env.val e x = some (.string s)) (hi : Env.val e i = some (.int kd j)) (hj : j = n) (h1 : n < s.size) :
    Gives P N (.ixs x i) e w (.int .u8 ((s[n]!).toNat : Nat)) := by
  subst hj
  have := g_ixs (P := P) (N := N) (w := w) hx hi (by omega) (by omega)
  rwa [Int.toNat_natCast] at this
end
end Go.HX
