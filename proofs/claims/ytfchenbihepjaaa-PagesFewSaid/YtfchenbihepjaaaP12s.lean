/- The library's sort of few ints. -/
import Derived.Test.YtfchenbihepjaaaHxS
import Derived.Test.YtfchenbihepjaaaIr0
import Derived.Test.YtfchenbihepjaaaIr1
namespace Go.Proofs.Ytfchenbihepjaaa
open Go Go.HX
attribute [local irreducible] Ret XRun XOps XDr XOne Does Gives
set_option maxRecDepth 4000
set_option maxHeartbeats 1000000
theorem stC0_P12s {goal next : Prop} (k : next) (hs : Hid next → goal := by (intro k; (first | (refine gC F.cmp_isNaN_int ?_; refine p_call rfl rfl (cmp_isNaN_int_spec _ h) ?_) | fail); exact k.out)) : goal := hs ⟨k⟩
theorem stD1_P12s {goal next : Prop} (k : next) (hs : Hid next → goal := by (intro k; (first | (refine gCR F.cmp_Less_int ?_; refine r_call rfl rfl rfl (cmp_Less_int_spec _ _ h) ?_) | fail); exact k.out)) : goal := hs ⟨k⟩
theorem stD2_P12s {goal next : Prop} (k : next) (hs : Hid next → goal := by (intro k; (first | (refine gSR ?_; (first | refine r_do rfl rfl (d_stwL rfl rfl rfl rfl rfl (h.pick (by repeat first | exact .here | apply Has.there)) (by first | (dsimp only [Value.cells]; done) | exact rfl)) ?_ | refine r_do rfl rfl (d_stL rfl rfl rfl (h.pick (by repeat first | exact .here | apply Has.there)) (by first | exact of_decide_eq_true rfl | simp) (by first | (dsimp only [List.set]; done) | exact rfl)) ?_)) | fail); exact k.out)) : goal := hs ⟨k⟩
theorem stC3_P12s {goal next : Prop} (k : next) (hs : Hid next → goal := by (intro k; (first | (refine gC F.math_bits_Len64 ?_; refine p_call rfl rfl (math_bits_Len64_spec _ ?_ h) ?_; iterate 1 (first | assumption | omega | (simp only []; omega) | decide)) | (refine gC F.math_bits_Len ?_; refine p_call rfl rfl (math_bits_Len_spec _ ?_ h) ?_; iterate 1 (first | assumption | omega | (simp only []; omega) | decide)) | fail); exact k.out)) : goal := hs ⟨k⟩
theorem stC4_P12s {goal next : Prop} (k : next) (hs : Hid next → goal := by (intro k; (first | (refine gC F.slices_insertionSortOrdered_int ?_; refine p_call rfl rfl (slices_insertionSortOrdered_int_spec _ ?_ (h.rf1)) ?_; iterate 1 (first | assumption | omega | (simp only []; omega) | decide)) | (refine gC F.slices_pdqsortOrdered_int ?_; refine p_call rfl rfl (slices_pdqsortOrdered_int_spec _ _ ?_ (h.rf1)) ?_; iterate 1 (first | assumption | omega | (simp only []; omega) | decide)) | fail); exact k.out)) : goal := hs ⟨k⟩
theorem swap_perm : ∀ (m : List Int) (j : Nat), j + 1 < m.length → ((m.set (j + 1) (m.getD j 0)).set j (m.getD (j + 1) 0)).Perm m
  | [], j, h => by simp at h
  | [_], j, h => by simp at h
  | a :: b :: t, 0, _ => by
    show (b :: a :: t).Perm (a :: b :: t)
    exact List.Perm.swap a b t
  | a :: b :: t, j + 1, h => by
    have := swap_perm (b :: t) j (by simp at h ⊢; omega)
    show (a :: (((b :: t).set (j + 1) ((b :: t).getD j 0)).set j ((b :: t).getD (j + 1) 0))).Perm (a :: b :: t)
    exact this.cons a
theorem getD_set' (l : List Int) (i j : Nat) (z : Int) (hi : i < l.length) : (l.set i z).getD j 0 = if i = j then z else l.getD j 0 := by
  rw [List.getD_eq_getElem?_getD, List.getD_eq_getElem?_getD, List.getElem?_set]
  by_cases h : i = j
  · subst h; simp [hi]
  · simp [h]
/-- The first i rise. -/
def Rise (m : List Int) (i : Nat) : Prop := ∀ p q, p < q → q < i → m.getD p 0 ≤ m.getD q 0
/-- The first i + 1 rise, but that the one at j may be too small. -/
def RiseBut (m : List Int) (i j : Nat) : Prop := (∀ p q, p < q → q ≤ i → p ≠ j → q ≠ j → m.getD p 0 ≤ m.getD q 0) ∧ ∀ q, j < q → q ≤ i → m.getD j 0 ≤ m.getD q 0
theorem rise_start {m : List Int} {i : Nat} (h : Rise m i) : RiseBut m i i := ⟨fun p q h1 h2 _ h4 => h p q h1 (by omega), fun q h1 h2 => by omega⟩
theorem rise_end {m : List Int} {i j : Nat} (hji : j ≤ i) (h : RiseBut m i j) (hj : j = 0 ∨ m.getD (j - 1) 0 ≤ m.getD j 0) : Rise m (i + 1) := fun p q h1 h2 => by
  by_cases hp : p = j
  · subst hp; exact h.2 q h1 (by omega)
  · by_cases hq : q = j
    · subst hq
      have hj := hj.resolve_left (by omega)
      by_cases e : p = q - 1
      · rw [e]; exact hj
      · have := h.1 p (q - 1) (by omega) (by omega) hp (by omega)
        omega
    · exact h.1 p q h1 (by omega) hp hq
theorem rise_step {m : List Int} {i j : Nat} (hji : j + 1 ≤ i) (hi : i < m.length) (h : RiseBut m i (j + 1)) (hlt : m.getD (j + 1) 0 < m.getD j 0) : RiseBut ((m.set (j + 1) (m.getD j 0)).set j (m.getD (j + 1) 0)) i j := by
  have hg : ∀ q, ((m.set (j + 1) (m.getD j 0)).set j (m.getD (j + 1) 0)).getD q 0 = if j = q then m.getD (j + 1) 0 else if j + 1 = q then m.getD j 0 else m.getD q 0 := fun q => by
    rw [getD_set' _ _ _ _ (by rw [List.length_set]; omega)]
    by_cases e : j = q
    · rw [if_pos e, if_pos e]
    · rw [if_neg e, if_neg e, getD_set' _ _ _ _ (by omega)]
  refine ⟨fun p q h1 h2 h3 h4 => ?_, fun q h1 h2 => ?_⟩
  · have ep := hg p
    have eq := hg q
    rw [if_neg (fun e => h3 e.symm)] at ep
    rw [if_neg (fun e => h4 e.symm)] at eq
    rw [ep, eq]
    by_cases e1 : j + 1 = p
    · rw [if_pos e1, if_neg (by omega)]
      exact h.1 j q (by omega) h2 (by omega) (by omega)
    · rw [if_neg e1]
      by_cases e2 : j + 1 = q
      · rw [if_pos e2]
        exact h.1 p j (by omega) (by omega) (by omega) (by omega)
      · rw [if_neg e2]
        exact h.1 p q h1 h2 (by omega) (by omega)
  · have ep := hg j
    have eq := hg q
    rw [if_pos rfl] at ep
    rw [if_neg (by omega)] at eq
    rw [ep, eq]
    by_cases e2 : j + 1 = q
    · rw [if_pos e2]; omega
    · rw [if_neg e2]
      exact h.2 q (by omega) h2
section
variable {P : Program} {fn : FuncId} {N : Nat} {e : Env} {w : World} {Q : Value → World → Prop} {k : List XI} {l : List XOp}
theorem p_ixsB {dst : Option Nat} {g : Option (Nat × Bool)} {x i : Operand} {s : ByteArray} {j : Int} {kd : IntKind} (hg : wantedE e g = some true) (hx : Env.val e x = some (.string s)) (hi : Env.val e i = some (.int kd j)) (h0 : 0 ≤ j) (h1 : j < s.size)
    (hn : ∀ q : Nat, q < 256 → XOps P fn N l k (Env.put e dst (.int .u8 (q : Int))) w Q) : XOps P fn N (⟨dst, g, .ixs x i⟩ :: l) k e w Q := p_val hg (g_ixs hx hi h0 h1) (hn _ (UInt8.toNat_lt _))
end
section
variable {S : SP} {w : World} {G : List HProp}

theorem cmp_isNaN_int_spec (a : Int) (h : Sat S w G) : Ret Try.prog F.cmp_isNaN_int #[.int .i64 a] w (fun v w' => v = .bool false ∧ Sat S w' G) := by
  refine ret_of is_cmp_isNaN_int rfl ?_
  repeat' (first | refine stPs ?_ | (refine p_cmp rfl rfl rfl rfl (fun hc => ?_) (fun hc => ?_) <;> simp only [cmpProp] at hc) | fail)
  exact x_ret' is_cmp_isNaN_int rfl ⟨rfl, h⟩
theorem cmp_Less_int_spec (a b : Int) (h : Sat S w G) : Ret Try.prog F.cmp_Less_int #[.int .i64 a, .int .i64 b] w (fun v w' => BoolIs v (a < b) ∧ Sat S w' G) := by
  refine ret_of is_cmp_Less_int rfl ?_
  by_cases hab : a < b
  · repeat' (first | refine stPs ?_ | (refine stC0_P12s ?_; rintro _ w ⟨rfl, h⟩) | (refine p_cmp rfl rfl rfl rfl (fun hc => ?_) (fun hc => ?_) <;> simp only [cmpProp] at hc) | fail)
    exact x_ret' is_cmp_Less_int rfl ⟨.t hab, h⟩
  · repeat' (first | refine stPs ?_ | (refine stC0_P12s ?_; rintro _ w ⟨rfl, h⟩) | (refine p_cmp rfl rfl rfl rfl (fun hc => ?_) (fun hc => ?_) <;> simp only [cmpProp] at hc) | fail)
    exact x_ret' is_cmp_Less_int rfl ⟨.f hab, h⟩

set_option maxHeartbeats 8000000 in
theorem slices_insertionSortOrdered_int_spec {v : Value} (l : List Int) (hl : l.length ≤ 1000000) (h : Sat S w (ownS T.int 1 v (ints .i64 l) :: G)) :
    Ret Try.prog F.slices_insertionSortOrdered_int #[v, .int .i64 0, .int .i64 l.length] w (fun r w' => r = .tuple #[] ∧ ∃ m, m.Perm l ∧ Rise m m.length ∧ Sat S w' (ownS T.int 1 v (ints .i64 m) :: G)) := by
  obtain ⟨va, vl, vc, rfl, hvl, _⟩ := ownS_slice h .here
  rw [ints_length, Nat.mul_one] at hvl
  refine ret_of is_slices_insertionSortOrdered_int rfl ?_
  have hr0 : Rise l 1 := fun p q h1 h2 => by omega
  repeat' (first | refine stPs ?_ | (refine stD1_P12s ?_; rintro _ w ⟨(⟨rfl, hb⟩ | ⟨rfl, hb⟩), h⟩ <;> refine nowa ?_) | (refine stD2_P12s ?_; rintro _ w ⟨rfl, h⟩ <;> refine nowa ?_) | (refine p_cmp rfl rfl rfl rfl (fun hc => ?_) (fun hc => ?_) <;> simp only [cmpProp] at hc) | (refine r_cmp rfl rfl rfl rfl rfl (fun hc => ?_) (fun hc => ?_) <;> simp only [cmpProp] at hc) | (refine x_drawn rfl ?_; have h := h.drew) | refine x_drawn rfl ?_ | fail)
  refine x_keep [0, 1, 2, 6] rfl ?_
  refine x_loop_inv (fun lm le w => ∃ (i : Nat), ∃ (m : List Int), lm = vl + 1 - i ∧ 1 ≤ i ∧ i ≤ vl + 1 ∧ m.Perm l ∧ Rise m i ∧ le = [(0, .slice va vl vc), (1, .int .i64 0), (2, .int .i64 l.length), (6, .int .i64 i)] ∧ Sat S w (ownS T.int 1 (.slice va vl vc) (ints .i64 m) :: G)) (vl) ⟨1, l, rfl, by omega, by omega, List.Perm.refl l, hr0, rfl, h⟩ ?_
  clear h
  rintro lm le w ⟨i, m, rfl, hi0, hi1, hi2, hi3, rfl, h⟩ ih
  have hml : m.length = vl := by rw [hi2.length_eq]; omega
  by_cases hc : i < vl
  · obtain ⟨vo, rfl⟩ := ownS_addr (E := T.int) h .here (by omega)
    have hrb := rise_start hi3
    repeat' (first | refine stPs ?_ | (refine stD1_P12s ?_; rintro _ w ⟨(⟨rfl, hb⟩ | ⟨rfl, hb⟩), h⟩ <;> refine nowa ?_) | (refine stD2_P12s ?_; rintro _ w ⟨rfl, h⟩ <;> refine nowa ?_) | (refine p_cmp rfl rfl rfl rfl (fun hc => ?_) (fun hc => ?_) <;> simp only [cmpProp] at hc) | (refine r_cmp rfl rfl rfl rfl rfl (fun hc => ?_) (fun hc => ?_) <;> simp only [cmpProp] at hc) | (refine x_drawn rfl ?_; have h := h.drew) | refine x_drawn rfl ?_ | fail)
    refine x_keep [0, 1, 2, 6, 7] rfl ?_
    refine x_loop_inv (fun lm le w => ∃ (j : Nat), ∃ (m : List Int), lm = 1 + j ∧ j ≤ i ∧ m.Perm l ∧ RiseBut m i j ∧ le = [(0, .slice (some ⟨vo, 0, none⟩) vl vc), (1, .int .i64 0), (2, .int .i64 l.length), (6, .int .i64 i), (7, .int .i64 j)] ∧ Sat S w (ownS T.int 1 (.slice (some ⟨vo, 0, none⟩) vl vc) (ints .i64 m) :: G)) (1 + i) ⟨i, m, rfl, by omega, hi2, hrb, rfl, h⟩ ?_
    clear h
    rintro lm le w ⟨j, m, rfl, hi0, hi1, hi2, rfl, h⟩ ihj
    have hml : m.length = vl := by rw [hi1.length_eq]; omega
    by_cases hj : 0 < j
    · obtain ⟨j, rfl⟩ : ∃ q, j = q + 1 := ⟨j - 1, by omega⟩
      by_cases hlt : m.getD (j + 1) 0 < m.getD j 0
      · repeat' (first | (refine gLR ?_; first | (refine r_own rfl rfl rfl h (fun w h => g_ldI (i := j + 1) rfl (ownS_rd h .here) (by omega) (by omega)) ?_) | (refine r_own rfl rfl rfl h (fun w h => g_ldI (i := j) rfl (ownS_rd h .here) (by omega) (by omega)) ?_)) | (refine gCR F.cmp_Less_int ?_; refine r_call rfl rfl rfl (cmp_Less_int_spec _ _ h) ?_; rintro _ w ⟨(⟨rfl, hb⟩ | ⟨rfl, hb⟩), h⟩; rotate_left; exact absurd hlt hb; refine nowa ?_) | (refine r_do rfl rfl (d_stI (i := j + 1) rfl rfl (h.pick .here) (by omega) (by omega)) ?_; rintro _ w ⟨rfl, h⟩; refine nowa ?_) | (refine r_do rfl rfl (d_stI (i := j) rfl rfl (h.pick .here) (by omega) (by rw [List.length_set]; omega)) ?_; rintro _ w ⟨rfl, h⟩; refine nowa ?_) | refine stP ?_ | (refine stD1_P12s ?_; rintro _ w ⟨(⟨rfl, hb⟩ | ⟨rfl, hb⟩), h⟩ <;> refine nowa ?_) | (refine stD2_P12s ?_; rintro _ w ⟨rfl, h⟩ <;> refine nowa ?_) | (refine p_cmp rfl rfl rfl rfl (fun hc => ?_) (fun hc => ?_) <;> simp only [cmpProp] at hc) | (refine r_cmp rfl rfl rfl rfl rfl (fun hc => ?_) (fun hc => ?_) <;> simp only [cmpProp] at hc) | (refine x_drawn rfl ?_; have h := h.drew) | refine x_drawn rfl ?_ | fail)
        rw [show ((j + 1 : Nat) : Int) - 1 = (j : Int) by omega]
        exact x_keep [0, 1, 2, 6, 7] rfl (ihj _ _ _ (by omega) ⟨j, _, rfl, by omega, (swap_perm m j (by omega)).trans hi1, rise_step (by omega) (by omega) hi2 hlt, rfl, h⟩)
      · repeat' (first | (refine gLR ?_; first | (refine r_own rfl rfl rfl h (fun w h => g_ldI (i := j + 1) rfl (ownS_rd h .here) (by omega) (by omega)) ?_) | (refine r_own rfl rfl rfl h (fun w h => g_ldI (i := j) rfl (ownS_rd h .here) (by omega) (by omega)) ?_)) | (refine gCR F.cmp_Less_int ?_; refine r_call rfl rfl rfl (cmp_Less_int_spec _ _ h) ?_; rintro _ w ⟨(⟨rfl, hb⟩ | ⟨rfl, hb⟩), h⟩; exact absurd hb hlt; refine nowa ?_) | refine stP ?_ | (refine stD1_P12s ?_; rintro _ w ⟨(⟨rfl, hb⟩ | ⟨rfl, hb⟩), h⟩ <;> refine nowa ?_) | (refine stD2_P12s ?_; rintro _ w ⟨rfl, h⟩ <;> refine nowa ?_) | (refine p_cmp rfl rfl rfl rfl (fun hc => ?_) (fun hc => ?_) <;> simp only [cmpProp] at hc) | (refine r_cmp rfl rfl rfl rfl rfl (fun hc => ?_) (fun hc => ?_) <;> simp only [cmpProp] at hc) | (refine x_drawn rfl ?_; have h := h.drew) | refine x_drawn rfl ?_ | fail)
        exact x_keep [0, 1, 2, 6] rfl (ih _ _ _ (by omega) ⟨i + 1, m, rfl, by omega, by omega, hi1, rise_end hi0 hi2 (.inr (by show m.getD j 0 ≤ _; omega)), rfl, h⟩)
    · repeat' (first | refine stPs ?_ | (refine stD1_P12s ?_; rintro _ w ⟨(⟨rfl, hb⟩ | ⟨rfl, hb⟩), h⟩ <;> refine nowa ?_) | (refine stD2_P12s ?_; rintro _ w ⟨rfl, h⟩ <;> refine nowa ?_) | (refine p_cmp rfl rfl rfl rfl (fun hc => ?_) (fun hc => ?_) <;> simp only [cmpProp] at hc) | (refine r_cmp rfl rfl rfl rfl rfl (fun hc => ?_) (fun hc => ?_) <;> simp only [cmpProp] at hc) | (refine x_drawn rfl ?_; have h := h.drew) | refine x_drawn rfl ?_ | fail)
      exact x_keep [0, 1, 2, 6] rfl (ih _ _ _ (by omega) ⟨i + 1, m, rfl, by omega, by omega, hi1, rise_end hi0 hi2 (.inl (by omega)), rfl, h⟩)
  · repeat' (first | refine stPs ?_ | (refine stD1_P12s ?_; rintro _ w ⟨(⟨rfl, hb⟩ | ⟨rfl, hb⟩), h⟩ <;> refine nowa ?_) | (refine stD2_P12s ?_; rintro _ w ⟨rfl, h⟩ <;> refine nowa ?_) | (refine p_cmp rfl rfl rfl rfl (fun hc => ?_) (fun hc => ?_) <;> simp only [cmpProp] at hc) | (refine r_cmp rfl rfl rfl rfl rfl (fun hc => ?_) (fun hc => ?_) <;> simp only [cmpProp] at hc) | (refine x_drawn rfl ?_; have h := h.drew) | refine x_drawn rfl ?_ | fail)
    exact x_end' is_slices_insertionSortOrdered_int rfl ⟨rfl, m, hi2, fun p q h1 h2 => hi3 p q h1 (by omega), h⟩

theorem math_bits_Len64_spec (z : Nat) (hz : z ≤ 12) (h : Sat S w G) : Ret Try.prog F.math_bits_Len64 #[.int .u64 z] w (fun v w' => (∃ n : Int, v = .int .i64 n) ∧ Sat S w' G) := by
  refine ret_of is_math_bits_Len64 rfl ?_
  have e8 : (z : Int) % 256 = z := by omega
  repeat' (first | (refine p_val rfl (g_convw_u8 rfl) ?_; rw [e8]) | (refine p_ixsB (j := (z : Int)) rfl rfl rfl (by omega) (by show (z : Int) < ((256 : Nat) : Int); omega) (fun q hq => ?_)) | refine stP ?_ | (refine p_cmp rfl rfl rfl rfl (fun hc => ?_) (fun hc => ?_) <;> simp only [cmpProp] at hc) | fail)
  exact x_ret' is_math_bits_Len64 rfl ⟨⟨_, rfl⟩, h⟩
theorem math_bits_Len_spec (z : Nat) (hz : z ≤ 12) (h : Sat S w G) : Ret Try.prog F.math_bits_Len #[.int .u64 z] w (fun v w' => (∃ n : Int, v = .int .i64 n) ∧ Sat S w' G) := by
  refine ret_of is_math_bits_Len rfl ?_
  repeat' (first | (refine gC F.math_bits_Len64 ?_; refine p_call rfl rfl (math_bits_Len64_spec z hz h) ?_; rintro _ w ⟨⟨n, rfl⟩, h⟩) | refine stP ?_ | (refine stC3_P12s ?_; rintro _ w ⟨⟨n, rfl⟩, h⟩) | fail)
  exact x_ret' is_math_bits_Len rfl ⟨⟨_, rfl⟩, h⟩
theorem slices_pdqsortOrdered_int_spec {v : Value} (n : Int) (l : List Int) (hl : l.length ≤ 12) (h : Sat S w (ownS T.int 1 v (ints .i64 l) :: G)) :
    Ret Try.prog F.slices_pdqsortOrdered_int #[v, .int .i64 0, .int .i64 l.length, .int .i64 n] w (fun r w' => r = .tuple #[] ∧ ∃ m, m.Perm l ∧ Rise m m.length ∧ Sat S w' (ownS T.int 1 v (ints .i64 m) :: G)) := by
  obtain ⟨va, vl, vc, rfl, hvl, _⟩ := ownS_slice h .here
  refine ret_of is_slices_pdqsortOrdered_int rfl ?_
  repeat' (first | refine stPs ?_ | (refine stC4_P12s ?_; rintro _ w ⟨rfl, ⟨m, hq1, hq2, h⟩⟩) | (refine stD1_P12s ?_; rintro _ w ⟨(⟨rfl, hb⟩ | ⟨rfl, hb⟩), h⟩ <;> refine nowa ?_) | (refine p_cmp rfl rfl rfl rfl (fun hc => ?_) (fun hc => ?_) <;> simp only [cmpProp] at hc) | (refine r_cmp rfl rfl rfl rfl rfl (fun hc => ?_) (fun hc => ?_) <;> simp only [cmpProp] at hc) | (refine x_drawn rfl ?_; have h := h.drew) | refine x_drawn rfl ?_ | fail)
  refine x_keep [0, 1, 2, 3, 8, 9] rfl ?_
  refine x_loop_inv (fun lm le w => ∃ (k : Nat), lm = 1 + k ∧ k ≤ 1 ∧ le = [(0, .slice va vl vc), (1, .int .i64 0), (2, .int .i64 l.length), (3, .int .i64 n), (8, .bool true), (9, .bool true)] ∧ Sat S w (ownS T.int 1 (.slice va vl vc) (ints .i64 l) :: G)) (2) ⟨1, rfl, by omega, rfl, h⟩ ?_
  clear h
  rintro lm le w ⟨k, rfl, hi0, rfl, h⟩ ih
  repeat' (first | (refine gC F.slices_insertionSortOrdered_int ?_; refine p_call rfl rfl (slices_insertionSortOrdered_int_spec l (by omega) (h.rf1)) ?_; rintro _ w ⟨rfl, m, hm, hs, h⟩) | refine stP ?_ | (refine stC4_P12s ?_; rintro _ w ⟨rfl, ⟨m, hq1, hq2, h⟩⟩) | (refine stD1_P12s ?_; rintro _ w ⟨(⟨rfl, hb⟩ | ⟨rfl, hb⟩), h⟩ <;> refine nowa ?_) | (refine p_cmp rfl rfl rfl rfl (fun hc => ?_) (fun hc => ?_) <;> simp only [cmpProp] at hc) | (refine r_cmp rfl rfl rfl rfl rfl (fun hc => ?_) (fun hc => ?_) <;> simp only [cmpProp] at hc) | (refine x_drawn rfl ?_; have h := h.drew) | refine x_drawn rfl ?_ | fail)
  exact x_ret' is_slices_pdqsortOrdered_int rfl ⟨rfl, m, hm, hs, h.pm1⟩
theorem slices_Sort_int_int_spec {v : Value} (l : List Int) (hl : l.length ≤ 12) (h : Sat S w (ownS T.int 1 v (ints .i64 l) :: G)) :
    Ret Try.prog F.slices_Sort_int_int #[v] w (fun r w' => r = .tuple #[] ∧ ∃ m, m.Perm l ∧ Rise m m.length ∧ Sat S w' (ownS T.int 1 v (ints .i64 m) :: G)) := by
  obtain ⟨va, vl, vc, rfl, hvl, _⟩ := ownS_slice h .here
  rw [ints_length, Nat.mul_one] at hvl
  subst hvl
  refine ret_of is_slices_Sort_int_int rfl ?_
  repeat' (first | (refine gC F.math_bits_Len ?_; refine p_call rfl rfl (math_bits_Len_spec l.length hl h) ?_; rintro _ w ⟨⟨n, rfl⟩, h⟩) | (refine gC F.slices_pdqsortOrdered_int ?_; refine p_call rfl rfl (slices_pdqsortOrdered_int_spec n l hl (h.rf1)) ?_; rintro _ w ⟨rfl, m, hm, hs, h⟩) | refine stP ?_ | (refine stC3_P12s ?_; rintro _ w ⟨⟨n, rfl⟩, h⟩) | (refine stC4_P12s ?_; rintro _ w ⟨rfl, ⟨m, hq1, hq2, h⟩⟩) | fail)
  exact x_end' is_slices_Sort_int_int rfl ⟨rfl, m, hm, hs, h.pm1⟩
end
end Go.Proofs.Ytfchenbihepjaaa
