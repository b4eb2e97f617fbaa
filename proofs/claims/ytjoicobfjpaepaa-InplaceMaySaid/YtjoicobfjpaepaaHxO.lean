/- HX, part O: strings. -/
import Derived.Test.YtjoicobfjpaepaaHxM
import Derived.Laws.BytesArg
import Derived.Lib.MinMax
namespace Go.HX
open Go Go.RowKit
section
variable {P : Program} {fn : FuncId} {N : Nat} {e : Env} {w w' : World} {Q : Value → World → Prop} {k : List XI} {l : List XOp}
variable {S : SP} {G G' : List HProp} {x y : Operand}
variable {es : List (List Nat)} {B : List Nat} {ws m : Nat} {R : Rec} {todo : List (Nat × XOp)} {i0 : Nat} {dst : Option Nat} {g : Option (Nat × Bool)} {t : TypeId}
/-- min and max of two. -/
theorem g_min2 {kd : IntKind} {a b : Int} (hx : Env.val e x = some (.int kd a)) (hy : Env.val e y = some (.int kd b)) : Gives P N (.mnx false x [y]) e w (.int kd (min a b)) := by
  intro o c hc hA
  obtain ⟨as, ts, ho, h1⟩ := co_mnx hc
  obtain rfl : as = #[x, y] := by cases as; simp_all
  have := Lib.run_min_ints (P := P) w ts o.type kd kd a b
  simp [execOp, ho, hA.val hx, hA.val hy, resolve, invoke, builtin, this]
theorem g_max2 {kd : IntKind} {a b : Int} (hx : Env.val e x = some (.int kd a)) (hy : Env.val e y = some (.int kd b)) : Gives P N (.mnx true x [y]) e w (.int kd (max a b)) := by
  intro o c hc hA
  obtain ⟨as, ts, ho, h1⟩ := co_mnx hc
  obtain rfl : as = #[x, y] := by cases as; simp_all
  have := Lib.run_max_ints (P := P) w ts o.type kd kd a b
  simp [execOp, ho, hA.val hx, hA.val hy, resolve, invoke, builtin, this]
/-- The lowest bits of an int. -/
theorem g_andm_i {a b : Int} (n : Nat) (hx : Env.val e x = some (.int .i64 a)) (hy : Env.val e y = some (.int .i64 b)) (hb : b = ((2 ^ n - 1 : Nat) : Int)) (hn : n ≤ 62) : Gives P N (.bin .and t x y) e w (.int .i64 (a % ((2 ^ n : Nat) : Int))) :=
  bin_run hx hy (by simp) (fun w => by
    subst hb
    have hp : 2 ^ n ≤ 2 ^ 62 := Nat.pow_le_pow_right (by decide) hn
    have hp0 : 0 < 2 ^ n := Nat.pow_pos (by decide)
    have e62 : (2 : Nat) ^ 62 = 4611686018427387904 := by decide
    have h1 : (BitVec.ofInt 64 ((2 ^ n - 1 : Nat) : Int)).toNat = 2 ^ n - 1 := by
      rw [BitVec.toNat_ofInt]; omega
    have h2 : (BitVec.ofInt 64 a).toNat = (a % 18446744073709551616).toNat := by
      rw [BitVec.toNat_ofInt]; rfl
    have hh : ((BitVec.ofInt 64 a &&& BitVec.ofInt 64 ((2 ^ n - 1 : Nat) : Int)).toNat : Int) = a % ((2 ^ n : Nat) : Int) := by
      rw [BitVec.toNat_and, h1, h2, Nat.and_two_pow_sub_one_eq_mod]
      have hd : ((2 ^ n : Nat) : Int) ∣ 18446744073709551616 := by
        refine ⟨((2 ^ (64 - n) : Nat) : Int), ?_⟩
        rw [← Int.natCast_mul, ← Nat.pow_add, show n + (64 - n) = 64 by omega]
        rfl
      rw [Int.natCast_emod, Int.toNat_of_nonneg (by omega), Int.emod_emod_of_dvd _ hd]
    show Result.ok (Value.int .i64 (IntKind.i64.wrap ((BitVec.ofInt 64 a &&& BitVec.ofInt 64 ((2 ^ n - 1 : Nat) : Int)).toNat : Int))) w = _
    have h3 := Int.emod_nonneg a (show ((2 ^ n : Nat) : Int) ≠ 0 by omega)
    have h4 := Int.emod_lt_of_pos a (show (0 : Int) < ((2 ^ n : Nat) : Int) by omega)
    rw [hh, wrap_i64_in (by omega) (by omega)])
/-- The place of an array's element. -/
theorem g_ixp {i : Operand} {n s bk of : Nat} {j : Int} {kd : IntKind} (hx : Env.val e x = some (.pointer (some ⟨bk, of, none⟩))) (hi : Env.val e i = some (.int kd j)) (h0 : 0 ≤ j) (h1 : j < n) :
    Gives P N (.ixp x i n s) e w (.pointer (some ⟨bk, of + j.toNat * s, none⟩)) := by
  intro o c hc hA
  obtain ⟨t, el, ho, he, hs⟩ := co_ixp hc
  simp [execOp, ho, hA.val hx, hA.val hi, Instr.indexAt, asIntOf, run_underlying he, Instr.sureAddr, h0, h1, size_run hs, addr_add]
theorem g_b2s {v : Value} {ns : List Int} (hx : Env.val e x = some v) (h : RdS w 1 v (ints .u8 ns)) : Gives P N (.b2s x) e w (.string (strOfNums ns)) := by
  intro o c hc hA
  obtain ⟨s, d, el, ho, hd, hs, he⟩ := co_b2s hc
  obtain ⟨a, len, cap, rfl, h1, h2, h3⟩ := h
  rw [ints_length, Nat.mul_one] at h2
  have hrun : (convert s d (.slice a len cap)).run P w = .ok (.string (strOfNums ns)) w := by
    cases a with
    | none =>
      rw [run_convert_bytes_nil w s el (elem_und hs) (int_und he) len cap d (str_und hd)]
      obtain rfl : len = 0 := by
        rcases Nat.eq_zero_or_pos len with h0 | h0
        · exact h0
        · obtain ⟨b, o', hb, _⟩ := h3 h0; cases hb
      obtain rfl := List.eq_nil_of_length_eq_zero h2
      rfl
    | some ad =>
      have hl : (loadCells ad len).run P w = .ok (ns.map (Value.int .u8)).toArray w := by
        have := run_loadCells_list (P := P) w ad (ns.map (Value.int .u8)) (fun j v hj => by
          have hjl : j < ns.length := by have := (List.getElem?_eq_some_iff.1 hj).1; simpa using this
          obtain ⟨b, o', hb, hcell⟩ := h3 (by omega)
          simp at hb
          subst hb
          rw [addr_add]
          exact hcell j v hj)
        simpa [h2] using this
      rw [run_convert_bytes_string w s d el _ len cap (elem_und hs) (int_und he) (str_und hd), run_bytesToString w _ len cap ns hl, foldl_push_bytes]
      simp [strOfNums, ByteArray.empty, ByteArray.emptyWithCapacity]
      rfl
  simp [execOp, ho, hA.val hx, hrun]
theorem ba_toList (a b : ByteArray) : (a.toList == b.toList) = decide (a = b) := by
  rw [← beq_toListBytes]
  by_cases h : a = b
  · rw [decide_eq_true h]; exact (ba_beq a b).2 h
  · rw [decide_eq_false h]
    cases hb : a == b
    · rfl
    · exact absurd ((ba_beq a b).1 hb) h
theorem g_seq {a b : ByteArray} (hx : Env.val e x = some (.string a)) (hy : Env.val e y = some (.string b)) : Gives P N (.bin .eql t x y) e w (.bool (decide (a = b))) := by
  intro o c hc hA
  obtain ⟨yt, ho⟩ := co_bin hc
  have h2 : (binOp .eql t (.string a) (.string b)).run P w = .ok (.bool (decide (a = b))) w := by
    simp only [binOp, Op.stringOp, ba_toList, Sem.run_pure]
  simp [execOp, ho, hA.val hx, hA.val hy, eqGuard, h2]
theorem g_sne {a b : ByteArray} (hx : Env.val e x = some (.string a)) (hy : Env.val e y = some (.string b)) : Gives P N (.bin .neq t x y) e w (.bool (!decide (a = b))) := by
  intro o c hc hA
  obtain ⟨yt, ho⟩ := co_bin hc
  have h2 : (binOp .neq t (.string a) (.string b)).run P w = .ok (.bool (!decide (a = b))) w := by
    simp only [binOp, Op.stringOp, ba_toList, Sem.run_pure]
  simp [execOp, ho, hA.val hx, hA.val hy, eqGuard, h2]
theorem g_slt {a b : ByteArray} (hx : Env.val e x = some (.string a)) (hy : Env.val e y = some (.string b)) : Gives P N (.bin .lss t x y) e w (.bool (Op.bytesLess a.toList b.toList)) := by
  intro o c hc hA
  obtain ⟨yt, ho⟩ := co_bin hc
  have h2 : (binOp .lss t (.string a) (.string b)).run P w = .ok (.bool (Op.bytesLess a.toList b.toList)) w := by
    simp only [binOp, Op.stringOp, Sem.run_pure]
  simp [execOp, ho, hA.val hx, hA.val hy, eqGuard, h2]
theorem g_sadd {a b : ByteArray} (hx : Env.val e x = some (.string a)) (hy : Env.val e y = some (.string b)) (hs : a.size + b.size ≤ 9223372036854775807) : Gives P N (.bin .add t x y) e w (.string (a ++ b)) := by
  intro o c hc hA
  obtain ⟨yt, ho⟩ := co_bin hc
  have hm : ¬ (((a.size + b.size : Nat) : Int) > IntKind.i64.max) := by
    simp [IntKind.max, IntKind.signed, IntKind.bits]; omega
  have h2 : (binOp .add t (.string a) (.string b)).run P w = .ok (.string (a ++ b)) w := by
    simp only [binOp, Op.stringOp, if_neg hm, Sem.run_pure]
  simp [execOp, ho, hA.val hx, hA.val hy, eqGuard, h2]
/-- Two strings: alike, or not. -/
theorem p_seq {a b : ByteArray} (hg : wantedE e g = some true) (hx : Env.val e x = some (.string a)) (hy : Env.val e y = some (.string b)) (h1 : a = b → XOps P fn N l k (Env.put e dst (.bool true)) w Q) (h2 : a ≠ b → XOps P fn N l k (Env.put e dst (.bool false)) w Q) : XOps P fn N (⟨dst, g, .bin .eql t x y⟩ :: l) k e w Q := by
  refine p_val hg (g_seq hx hy) ?_
  by_cases h : a = b
  · rw [decide_eq_true h]; exact h1 h
  · rw [decide_eq_false h]; exact h2 h
theorem p_sne {a b : ByteArray} (hg : wantedE e g = some true) (hx : Env.val e x = some (.string a)) (hy : Env.val e y = some (.string b)) (h1 : a = b → XOps P fn N l k (Env.put e dst (.bool false)) w Q) (h2 : a ≠ b → XOps P fn N l k (Env.put e dst (.bool true)) w Q) : XOps P fn N (⟨dst, g, .bin .neq t x y⟩ :: l) k e w Q := by
  refine p_val hg (g_sne hx hy) ?_
  by_cases h : a = b
  · rw [decide_eq_true h]; exact h1 h
  · rw [decide_eq_false h]; exact h2 h
end
/-- A part of a row. -/
theorem RdS.sub {w : World} {n len cap l' h' : Nat} {a : Option Addr} {cs : List Value} (h : RdS w n (.slice a len cap) cs) (h1 : l' ≤ h') (h2 : h' ≤ len) :
    RdS w n (.slice (if cap = l' then a else a.map (·.add (l' * n))) (h' - l') (cap - l')) ((cs.take (h' * n)).drop (l' * n)) := by
  obtain ⟨hl, hc⟩ := h.len
  have hle : h' * n ≤ len * n := Nat.mul_le_mul_right _ h2
  refine ⟨_, _, _, rfl, by omega, by rw [List.length_drop, List.length_take, hl, Nat.min_eq_left hle, Nat.sub_mul], fun hp => ?_⟩
  obtain ⟨b, o, rfl⟩ := h.addr (by omega)
  rw [if_neg (by omega)]
  refine ⟨b, o + l' * n, by simp [addr_add], fun j u hj => ?_⟩
  rw [List.getElem?_drop] at hj
  have hlt := (List.getElem?_eq_some_iff.1 hj).1
  rw [List.length_take] at hlt
  rw [List.getElem?_take_of_lt (by omega)] at hj
  have := h.cell hj
  rwa [Nat.add_assoc]
/-! ### bytes of strings -/
/-- A string's byte; 0 behind its end. -/
def byteN (s : ByteArray) (i : Nat) : Nat := if i < s.size then (s[i]!).toNat else 0
theorem byteN_lt (s : ByteArray) (i : Nat) : byteN s i < 256 := by
  unfold byteN
  split
  · exact UInt8.toNat_lt _
  · decide
theorem byteN_end {s : ByteArray} {i : Nat} (h : s.size ≤ i) : byteN s i = 0 := by unfold byteN; rw [if_neg (by omega)]
theorem byteN_str {ns : List Int} (hn : ∀ n ∈ ns, 0 ≤ n ∧ n ≤ 255) (i : Nat) : byteN (strOfNums ns) i = (ns.getD i 0).toNat := by
  unfold byteN
  rw [strOfNums_size]
  split
  · rename_i h
    have hlt : i < (strOfNums ns).size := by rw [strOfNums_size]; exact h
    rw [getElem!_pos (strOfNums ns) i hlt]
    have hm := hn ns[i] (List.getElem_mem h)
    show (((ns.map fun n => UInt8.ofNat n.toNat).toArray)[i]'(by simpa using h)).toNat = _
    rw [List.getD_eq_getElem?_getD, List.getElem?_eq_getElem h]
    simp
    omega
  · rename_i h
    rw [List.getD_eq_getElem?_getD, List.getElem?_eq_none (by omega)]
    rfl
theorem str_ext {a b : ByteArray} (hs : a.size = b.size) (h : ∀ i, i < a.size → byteN a i = byteN b i) : a = b := by
  apply ByteArray.ext
  apply Array.ext
  · exact hs
  · intro i h1 h2
    have h1' : i < a.size := h1
    have h2' : i < b.size := h2
    have h3 := h i h1
    unfold byteN at h3
    rw [if_pos h1', if_pos h2', getElem!_pos a i h1', getElem!_pos b i h2'] at h3
    exact UInt8.toNat_inj.1 h3
/-- Bytes as a number, the lowest first. -/
def leV (f : Nat → Nat) (st : Nat) : Nat → Nat
  | 0 => 0
  | c + 1 => leV f st c + f (st + c) * 256 ^ c
theorem leV_lt {f : Nat → Nat} (hf : ∀ i, f i < 256) (st : Nat) : ∀ c, leV f st c < 256 ^ c
  | 0 => by simp [leV]
  | c + 1 => by
    have ih := leV_lt hf st c
    have h1 := hf (st + c)
    rw [leV, Nat.pow_succ]
    have : f (st + c) * 256 ^ c ≤ 255 * 256 ^ c := Nat.mul_le_mul_right _ (by omega)
    omega
theorem leV_tail {f : Nat → Nat} {st c : Nat} : ∀ {d}, c ≤ d → (∀ k, c ≤ k → k < d → f (st + k) = 0) → leV f st d = leV f st c
  | 0, h, _ => by obtain rfl : c = 0 := by omega
                  rfl
  | d + 1, h, hz => by
    rcases Nat.eq_or_lt_of_le h with rfl | hlt
    · rfl
    · rw [leV, hz d (by omega) (by omega), leV_tail (by omega) (fun k h1 h2 => hz k h1 (by omega))]
      simp
theorem leV_digit {f : Nat → Nat} (hf : ∀ i, f i < 256) (st : Nat) : ∀ {c k}, k < c → leV f st c / 256 ^ k % 256 = f (st + k)
  | c + 1, k, h => by
    rw [leV]
    rcases Nat.eq_or_lt_of_le (Nat.lt_succ_iff.1 h) with rfl | hlt
    · have h1 := leV_lt hf st k
      rw [Nat.add_mul_div_right _ _ (Nat.pow_pos (by decide)), Nat.div_eq_of_lt h1, Nat.zero_add, Nat.mod_eq_of_lt (hf _)]
    · have ih := leV_digit hf st hlt
      have e : 256 ^ c = 256 ^ k * (256 * 256 ^ (c - k - 1)) := by
        rw [← Nat.pow_succ', ← Nat.pow_add]; congr 1; omega
      rw [e, show f (st + c) * (256 ^ k * (256 * 256 ^ (c - k - 1))) = (f (st + c) * (256 * 256 ^ (c - k - 1))) * 256 ^ k by ac_rfl]
      rw [Nat.add_mul_div_right _ _ (Nat.pow_pos (by decide)), show f (st + c) * (256 * 256 ^ (c - k - 1)) = 256 * (f (st + c) * 256 ^ (c - k - 1)) by ac_rfl, Nat.add_mul_mod_self_left, ih]
theorem leV_of {x : Nat} {f : Nat → Nat} {st : Nat} : ∀ {c}, (∀ k, k < c → f (st + k) = x / 256 ^ k % 256) → leV f st c = x % 256 ^ c
  | 0, _ => by simp [leV, Nat.mod_one]
  | c + 1, h => by
    rw [leV, leV_of (fun k hk => h k (by omega)), h c (by omega), Nat.pow_succ, Nat.mod_mul, Nat.mul_comm]
theorem leV_congr {f g : Nat → Nat} {st su : Nat} : ∀ {c}, (∀ k, k < c → f (st + k) = g (su + k)) → leV f st c = leV g su c
  | 0, _ => rfl
  | c + 1, h => by rw [leV, leV, leV_congr (fun k hk => h k (by omega)), h c (by omega)]
/-- The words of a text. -/
def wordsZ (s : ByteArray) : List Int := (List.range ((s.size + 7) / 8)).map (fun j => ((leV (byteN s) (8 * j) 8 : Nat) : Int))
theorem wordsZ_length (s : ByteArray) : (wordsZ s).length = (s.size + 7) / 8 := by simp [wordsZ]
theorem wordsZ_get (s : ByteArray) (j : Nat) : (wordsZ s).getD j 0 = ((leV (byteN s) (8 * j) 8 : Nat) : Int) := by
  unfold wordsZ
  rw [List.getD_eq_getElem?_getD, List.getElem?_map]
  by_cases h : j < (s.size + 7) / 8
  · rw [List.getElem?_range h]; rfl
  · rw [List.getElem?_eq_none (by simpa using h)]
    have : leV (byteN s) (8 * j) 8 = leV (byteN s) (8 * j) 0 := leV_tail (by omega) (fun k _ hk => byteN_end (by omega))
    rw [this]; rfl
/-- A byte of words. -/
def byteW (l : List Int) (i : Nat) : Nat := (l.getD (i / 8) 0).toNat / 256 ^ (i % 8) % 256
theorem byteW_lt (l : List Int) (i : Nat) : byteW l i < 256 := Nat.mod_lt _ (by decide)
def bytesZ (l : List Int) (n : Nat) : List Int := (List.range n).map (fun i => (byteW l i : Int))
theorem bytesZ_length (l : List Int) (n : Nat) : (bytesZ l n).length = n := by simp [bytesZ]
theorem bytesZ_get {l : List Int} {n i : Nat} (h : i < n) : (bytesZ l n).getD i 0 = (byteW l i : Int) := by
  simp [bytesZ, List.getD_eq_getElem?_getD, h]
theorem bytesZ_ok (l : List Int) (n : Nat) : ∀ b ∈ bytesZ l n, 0 ≤ b ∧ b ≤ 255 := by
  intro b hb
  simp [bytesZ] at hb
  obtain ⟨i, _, rfl⟩ := hb
  have := byteW_lt l i
  omega
theorem byteN_bytes (l : List Int) (n i : Nat) : byteN (strOfNums (bytesZ l n)) i = if i < n then byteW l i else 0 := by
  rw [byteN_str (bytesZ_ok l n)]
  split
  · rename_i h; rw [bytesZ_get h]; simp
  · rename_i h
    rw [List.getD_eq_getElem?_getD, List.getElem?_eq_none (by rw [bytesZ_length]; omega)]; rfl
theorem byteW_words (s : ByteArray) (i : Nat) : byteW (wordsZ s) i = byteN s i := by
  unfold byteW
  rw [wordsZ_get, Int.toNat_natCast, leV_digit (byteN_lt s) _ (Nat.mod_lt _ (by decide))]
  congr 1
  omega
/-- Do the bytes from n on vanish? -/
def tailOk (l : List Int) (n : Nat) : Prop := ∀ i, n ≤ i → i < 8 * l.length → byteW l i = 0
theorem words_bytes {l : List Int} {n : Nat} (hl : ∀ i, 0 ≤ l.getD i 0 ∧ l.getD i 0 ≤ 18446744073709551615) (hn : l.length = (n + 7) / 8) : wordsZ (strOfNums (bytesZ l n)) = l ↔ tailOk l n := by
  have hsz : (strOfNums (bytesZ l n)).size = n := by rw [strOfNums_size, bytesZ_length]
  constructor
  · intro h i h1 h2
    have := byteW_words (strOfNums (bytesZ l n)) i
    rw [h, byteN_bytes, if_neg (by omega)] at this
    exact this
  · intro h
    apply List.ext_getElem
    · rw [wordsZ_length, hsz, hn]
    · intro j h1 h2
      have e1 := wordsZ_get (strOfNums (bytesZ l n)) j
      rw [List.getD_eq_getElem?_getD, List.getElem?_eq_getElem h1] at e1
      simp only [Option.getD_some] at e1
      rw [e1]
      have e2 : l.getD j 0 = l[j] := by rw [List.getD_eq_getElem?_getD, List.getElem?_eq_getElem h2]; rfl
      have hb := hl j
      have e3 : leV (byteN (strOfNums (bytesZ l n))) (8 * j) 8 = (l.getD j 0).toNat % 256 ^ 8 := leV_of (fun k hk => by
        have hd : (8 * j + k) / 8 = j := by omega
        have hm : (8 * j + k) % 8 = k := by omega
        have e4 : byteW l (8 * j + k) = (l.getD j 0).toNat / 256 ^ k % 256 := by unfold byteW; rw [hd, hm]
        rw [byteN_bytes]
        split
        · exact e4
        · rw [← e4, h _ (by omega) (by omega)])
      rw [e3, ← e2]
      have : (l.getD j 0).toNat < 256 ^ 8 := by
        have e : (256 : Nat) ^ 8 = 18446744073709551616 := by decide
        rw [e]; omega
      rw [Nat.mod_eq_of_lt this]
      omega
theorem bytes_words (s : ByteArray) : strOfNums (bytesZ (wordsZ s) s.size) = s := by
  have hsz : (strOfNums (bytesZ (wordsZ s) s.size)).size = s.size := by rw [strOfNums_size, bytesZ_length]
  refine str_ext hsz (fun i hi => ?_)
  rw [byteN_bytes, if_pos (by omega), byteW_words]
theorem tail_words (s : ByteArray) : tailOk (wordsZ s) s.size := fun i h1 _ => by rw [byteW_words, byteN_end h1]
theorem strOfNums_take (ns : List Int) (n : Nat) : (strOfNums ns).extract 0 n = strOfNums (ns.take n) := by
  apply ByteArray.ext
  apply Array.toList_inj.1
  rw [ByteArray.data_extract, Array.toList_extract]
  simp [strOfNums, List.map_take]
/-- What a call comes to, in the kit's words. -/
theorem Ret.calls {P : Program} {f : FuncId} {args : Array Value} {w : World} {Q : Value → World → Prop} (h : Ret P f args w Q) : Calls P f args w (Rets Q) := h
end Go.HX
