/- Layer 11 (device): blocks are compared. -/
import Derived.Test.YtfchenbihepjaaaHxS
import Derived.Test.YtfchenbihepjaaaP11b
import Derived.Sort.Grow
import Derived.Deep.Draws
namespace Go.Proofs.Ytfchenbihepjaaa
open Go Go.HX
attribute [local irreducible] Ret XRun XOps XDr XOne Does Gives
set_option maxRecDepth 4000
set_option maxHeartbeats 1000000
theorem stC0_P11t {goal next : Prop} (k : next) (hs : Hid next → goal := by (intro k; (first | (refine gC F.cmp_isNaN_int ?_; refine p_call rfl rfl (cmp_isNaN_int_spec _ h) ?_) | fail); exact k.out)) : goal := hs ⟨k⟩
theorem stC1_P11t {goal next : Prop} (k : next) (hs : Hid next → goal := by (intro k; (first | (refine gBx ?_; refine p_do rfl (d_boxL rfl h (by first | (dsimp only [Value.cells]; done) | exact rfl)) ?_) | fail); exact k.out)) : goal := hs ⟨k⟩
def blkC (p : Int × Int) : List Value := [.int .i64 p.1, .int .i64 p.2]
theorem blkC_len (p : Int × Int) : (blkC p).length = 2 := rfl
theorem blkC_one (p : Int × Int) : ∀ u ∈ blkC p, u.oneCell' = true := by simp [blkC, Value.oneCell']
def cmpV (x y : Int) : Int := if x < y then -1 else if y < x then 1 else 0
def blkCmp (p q : Int × Int) : Int := if cmpV p.1 q.1 ≠ 0 then cmpV p.1 q.1 else cmpV p.2 q.2
section
variable {P : Program} {fn : FuncId} {N : Nat} {e : Env} {w : World} {x : Operand}
/-- A box, with the world behind it. -/
theorem d_boxW {T : TypeId} {u : Value} {c : Array Value} (hx : Env.val e x = some u) (hc : u.cells = c) : Does P N (.box T x) e w (fun v w' => v = .pointer (some ⟨w.heap.size, 0, none⟩) ∧ w' = w.alloc (.cells c T (0, 0))) := by
  subst hc
  unfold Does
  intro op a hco hA next Q' hn
  have hop := co_box hco
  have hrun : (execOp a.eval op).run P w = .ok (.value (.pointer (some ⟨w.heap.size, 0, none⟩))) (w.alloc (.cells u.cells T (0, 0))) := by
    simp [execOp, hop, hA.val hx, Instr.box, newVar, newRow]
  rw [hrun]
  exact hn _ _ ⟨rfl, rfl⟩
/-- A slice's literal, with the world behind it. -/
theorem d_bslW {E : TypeId} {sz ln : Nat} {z : List Value} {ps : List (Nat × Operand)} {vs : List (Nat × Value)} {cells : Array Value} (hp : Env.parts e ps = some vs) (hsm : Nat.ble (ln * sz) 16777216 = true) (hz : ln * sz ≠ 0 ∨ ln = 0)
    (hf : Instr.fill (fun i => some (i * sz, sz)) (bslZ z (ln * sz)) vs = some cells) :
    Does P N (.bsl E sz ln z ps) e w (fun v w' => v = .slice (some ⟨w.heap.size, 0, none⟩) ln ln ∧ w' = w.alloc (.cells cells E (0, 0))) := by
  unfold Does
  intro op a hco hA next Q' hn
  obtain ⟨t, parts, hop, he, hs, hzz, rfl⟩ := co_bsl hco
  have hpv := hA.parts hp
  have hpa : (parts.map (fun p => (p.1, a.eval p.2))).toList = vs := by rw [Array.toList_map]; exact hpv
  obtain ⟨i, hi, zv, hzv, hzc⟩ : ∃ i, P.info? E = some i ∧ ∃ zv, i.zero = some zv ∧ zv.cells.toList = z := by
    unfold zeroAt at hzz
    cases hi : P.info? E with
    | none => simp [hi] at hzz
    | some i =>
      rw [hi] at hzz
      simp at hzz
      split at hzz
      · rename_i zv hzv; simp at hzz; exact ⟨i, rfl, zv, hzv, hzz⟩
      · simp at hzz
  have hzs : zv.cells = z.toArray := by rw [← hzc]
  have hsm' : ¬ ln * sz > 2 ^ 24 := by
    have := Nat.le_of_ble_eq_true hsm
    simpa using this
  have hrun : (Instr.buildSlice t ln (parts.map (fun p => (p.1, a.eval p.2)))).run P w = .ok (.slice (some ⟨w.heap.size, 0, none⟩) ln ln) (w.alloc (.cells cells E (0, 0))) := by
    unfold Instr.buildSlice
    simp only [Sem.run_bind, run_underlying (elem_und he), Result.andThen, size_run hs, hpa, if_neg hsm']
    by_cases h0 : ln * sz = 0
    · have hl0 : ln = 0 := by
        rcases hz with h' | h'
        · exact absurd h0 h'
        · exact h'
      subst hl0
      have hr0 : Array.range 0 = #[] := by apply Array.ext <;> simp
      have hf' := hf
      unfold bslZ at hf'
      simp only [Nat.zero_mul, hr0, Array.map_empty] at hf'
      simp only [Nat.zero_mul, if_true, hr0, Array.map_empty, hf']
      simp [newRow]
    · have hf' := hf
      unfold bslZ at hf'
      rw [if_neg h0]
      simp only [Sem.run_bind, zeroValue, typeInfo, run_program, Result.andThen, hi, Sem.run_pure, hzv, hzs, hf']
      simp [newRow]
  have : (execOp a.eval op).run P w = .ok (.value (.slice (some ⟨w.heap.size, 0, none⟩) ln ln)) (w.alloc (.cells cells E (0, 0))) := by
    simp only [execOp, hop]
    simp only [Sem.run_bind, hrun, Result.andThen, Sem.run_pure]
  rw [this]
  exact hn _ _ ⟨rfl, rfl⟩
theorem d_litW {E : TypeId} {sz ln : Nat} {z : List Value} {ps : List (Nat × Operand)} {vs : List (Nat × Value)} (cs : List Value) (hp : Env.parts e ps = some vs) (hsm : Nat.ble (ln * sz) 16777216 = true) (hz : (Nat.beq z.length sz && Nat.blt 0 sz) = true)
    (hf : fillL (fun i => some (i * sz, sz)) (zerosA z ln) vs = some cs) : Does P N (.bsl E sz ln z ps) e w (fun v w' => v = .slice (some ⟨w.heap.size, 0, none⟩) ln ln ∧ w' = w.alloc (.cells cs.toArray E (0, 0))) := by
  simp only [Bool.and_eq_true, Nat.blt_eq] at hz
  have hzl : z.length = sz := Nat.eq_of_beq_eq_true hz.1
  have hz' : ln * sz ≠ 0 ∨ ln = 0 := by
    rcases Nat.eq_zero_or_pos ln with h0 | h0
    · exact .inr h0
    · exact .inl (fun h1 => by rcases Nat.mul_eq_zero.1 h1 with h2 | h2 <;> omega)
  have hzz : bslZ z (ln * sz) = (zerosA z ln).toArray := by
    unfold bslZ
    rw [← hzl]
    exact mks_zeros z ln (fun h0 => by rw [h0] at hzl; simp at hzl; omega)
  have hf := fill_fillL _ vs _ _ hf
  rw [← hzz] at hf
  exact d_bslW hp hsm hz' hf
end
section
variable {S : SP} {w : World} {G : List HProp}

theorem cmp_isNaN_eq (x : Int) (w : World) : Ret Try.prog F.cmp_isNaN_int #[.int .i64 x] w (fun v w' => v = .bool false ∧ w' = w) := by
  refine ret_of is_cmp_isNaN_int rfl ?_
  repeat' (first | refine stPs ?_ | (refine p_cmp rfl rfl rfl rfl (fun hc => ?_) (fun hc => ?_) <;> simp only [cmpProp] at hc) | fail)
  exact x_ret' is_cmp_isNaN_int rfl ⟨rfl, rfl⟩
theorem cmp_Compare_eq (x y : Int) (w : World) : Ret Try.prog F.cmp_Compare_int #[.int .i64 x, .int .i64 y] w (fun v w' => v = .int .i64 (cmpV x y) ∧ w' = w) := by
  refine ret_of is_cmp_Compare_int rfl ?_
  unfold cmpV
  by_cases h1 : x < y
  · rw [if_pos h1]
    repeat' (first | (refine gC F.cmp_isNaN_int ?_; refine p_call rfl rfl (cmp_isNaN_eq _ _) ?_; rintro _ _ ⟨rfl, rfl⟩) | refine stP ?_ | (refine stC0_P11t ?_; rintro _ w ⟨rfl, h⟩) | (refine p_cmp rfl rfl rfl rfl (fun hc => ?_) (fun hc => ?_) <;> simp only [cmpProp] at hc) | fail)
    exact x_ret' is_cmp_Compare_int rfl ⟨rfl, rfl⟩
  · rw [if_neg h1]
    by_cases h2 : y < x
    · rw [if_pos h2]
      repeat' (first | (refine gC F.cmp_isNaN_int ?_; refine p_call rfl rfl (cmp_isNaN_eq _ _) ?_; rintro _ _ ⟨rfl, rfl⟩) | refine stP ?_ | (refine stC0_P11t ?_; rintro _ w ⟨rfl, h⟩) | (refine p_cmp rfl rfl rfl rfl (fun hc => ?_) (fun hc => ?_) <;> simp only [cmpProp] at hc) | fail)
      exact x_ret' is_cmp_Compare_int rfl ⟨rfl, rfl⟩
    · rw [if_neg h2]
      repeat' (first | (refine gC F.cmp_isNaN_int ?_; refine p_call rfl rfl (cmp_isNaN_eq _ _) ?_; rintro _ _ ⟨rfl, rfl⟩) | refine stP ?_ | (refine stC0_P11t ?_; rintro _ w ⟨rfl, h⟩) | (refine p_cmp rfl rfl rfl rfl (fun hc => ?_) (fun hc => ?_) <;> simp only [cmpProp] at hc) | fail)
      exact x_ret' is_cmp_Compare_int rfl ⟨rfl, rfl⟩
theorem cmp_Or_eq {v : Value} (a b : Int) (hr : RdS w 1 v (ints .i64 [a, b])) (h : Sat S w G) : Ret Try.prog F.cmp_Or_int #[v] w (fun u w' => u = .int .i64 (if a ≠ 0 then a else b) ∧ w' = w) := by
  have hr2 := hr
  obtain ⟨va, vl, vc, rfl, _⟩ := hr2
  have hvl := hr.ilen
  simp at hvl
  subst hvl
  obtain ⟨pb, po, rfl⟩ := hr.addr (by decide)
  refine ret_of is_cmp_Or_int rfl ?_
  obtain ⟨w0, hw0⟩ : ∃ q, q = w := ⟨w, rfl⟩
  rw [← hw0] at hr
  repeat' (first | refine stPs ?_ | (refine p_cmp rfl rfl rfl rfl (fun hc => ?_) (fun hc => ?_) <;> simp only [cmpProp] at hc) | fail)
  refine x_keep [3, 6, 7, 8] rfl ?_
  refine x_loop_inv (fun lm le w => ∃ (i : Nat), lm = 2 - i ∧ i ≤ 2 ∧ w = w0 ∧ (1 ≤ i → a = 0) ∧ (2 ≤ i → b = 0) ∧ le = [(3, .int .i64 0), (6, .slice (some ⟨pb, po, none⟩) 2 vc), (7, .int .i64 2), (8, .int .i64 i)] ∧ Sat S w (G)) (2) ⟨0, rfl, by omega, hw0.symm, by omega, by omega, rfl, h⟩ ?_
  clear h
  rintro lm le w ⟨i, rfl, hi0, hi1, hi2, hi3, rfl, h⟩ ih
  have hww := hi1.trans hw0
  rw [← hi1] at hr
  by_cases hi : i < 2
  · obtain ⟨z, hz⟩ := has_elem (show i < [a, b].length by simpa using hi)
    have hgz : [a, b].getD i 0 = z := by rw [List.getD_eq_getElem?_getD, hz]; rfl
    by_cases hz0 : z = 0
    · subst hz0
      repeat' (first | (refine gL ?_; refine p_val rfl (g_ldI (i := i) rfl hr (by omega) (by simpa using hi)) ?_; rw [hgz]) | refine stP ?_ | (refine p_cmp rfl rfl rfl rfl (fun hc => ?_) (fun hc => ?_) <;> simp only [cmpProp] at hc) | fail)
      refine x_keep [3, 6, 7, 8] rfl (ih _ _ _ (by omega) ⟨i + 1, rfl, by omega, hi1, fun h1 => ?_, fun h2 => ?_, rfl, h⟩)
      · rcases Nat.eq_zero_or_pos i with rfl | hp
        · simpa using hgz
        · exact hi2 hp
      · obtain rfl : i = 1 := by omega
        simpa using hgz
    · have e : (if a ≠ 0 then a else b) = z := by
        rcases Nat.eq_zero_or_pos i with rfl | hp
        · have ha : a = z := by simpa using hgz
          rw [if_pos (by rw [ha]; exact hz0), ha]
        · obtain rfl : i = 1 := by omega
          have hb : b = z := by simpa using hgz
          rw [if_neg (fun h => h (hi2 (by omega))), hb]
      repeat' (first | (refine gL ?_; refine p_val rfl (g_ldI (i := i) rfl hr (by omega) (by simpa using hi)) ?_; rw [hgz]) | refine stP ?_ | (refine p_cmp rfl rfl rfl rfl (fun hc => ?_) (fun hc => ?_) <;> simp only [cmpProp] at hc) | fail)
      exact x_ret' is_cmp_Or_int rfl ⟨by rw [e]; rfl, hww⟩
  · obtain rfl : i = 2 := by omega
    repeat' (first | refine stPs ?_ | (refine p_cmp rfl rfl rfl rfl (fun hc => ?_) (fun hc => ?_) <;> simp only [cmpProp] at hc) | fail)
    rw [if_neg (fun h => h (hi2 (by omega))), hi3 (by omega)]
    exact x_ret' is_cmp_Or_int rfl ⟨rfl, hww⟩

/-- What compares two blocks, with the world behind it. -/
theorem device_Device_Blocks_1_eq (p q : Int × Int) (W : World) : Ret Try.prog F.device_Device_Blocks_1 #[.agg (blkC p).toArray, .agg (blkC q).toArray] W (fun v w' => v = .int .i64 (blkCmp p q) ∧ ∃ n os, w' = Sort.grow (World.drewN W n) os) := by
  have h := Sat.begin W
  refine ret_of is_device_Device_Blocks_1 rfl ?_
  repeat' (first | (refine gBx ?_; refine p_do rfl (d_boxW (c := (blkC p).toArray) rfl rfl) ?_; rintro _ _ ⟨rfl, rfl⟩; have h := h.alloc (.cells (blkC p).toArray T.api_Block (0, 0))) | (refine gBx ?_; refine p_do rfl (d_boxW (c := (blkC q).toArray) rfl rfl) ?_; rintro _ _ ⟨rfl, rfl⟩; have h := h.alloc (.cells (blkC q).toArray T.api_Block (0, 0))) | (refine gCR F.cmp_Compare_int ?_; refine r_call rfl rfl rfl (cmp_Compare_eq _ _ _) ?_; rintro _ _ ⟨rfl, rfl⟩; refine nowa ?_) | refine stP ?_ | (refine stC1_P11t ?_; rintro _ w ⟨bx, rfl, h⟩) | (refine x_drawn rfl ?_; have h := h.drew) | refine x_drawn rfl ?_ | fail)
  refine r_do rfl rfl (d_litW [.int .i64 (cmpV p.1 q.1), .int .i64 (cmpV p.2 q.2)] rfl rfl rfl rfl) ?_
  rintro _ _ ⟨rfl, rfl⟩
  have h := h.alloc (.cells #[.int .i64 (cmpV p.1 q.1), .int .i64 (cmpV p.2 q.2)] T.int (0, 0))
  refine nowa ?_
  have h2 := ownS_shut (E := T.int) (n := 1) (len := 2) (cap := 2) (cs := [.int .i64 (cmpV p.1 q.1), .int .i64 (cmpV p.2 q.2)]) (spare := []) h rfl (by decide) (by unfold maxLen; omega) rfl
  repeat' (first | (refine gCR F.cmp_Or_int ?_; refine r_call rfl rfl rfl (cmp_Or_eq (cmpV p.1 q.1) (cmpV p.2 q.2) (ownS_rd h2 .here) h2) ?_; rintro _ _ ⟨rfl, rfl⟩; refine nowa ?_) | refine stP ?_ | (refine stC1_P11t ?_; rintro _ w ⟨bx, rfl, h⟩) | (refine x_drawn rfl ?_; have h := h.drew) | refine x_drawn rfl ?_ | fail)
  exact x_ret' is_device_Device_Blocks_1 rfl ⟨rfl, 1, #[.cells (blkC p).toArray T.api_Block (0, 0)] ++ #[.cells (blkC q).toArray T.api_Block (0, 0)] ++ #[.cells #[.int .i64 (cmpV p.1 q.1), .int .i64 (cmpV p.2 q.2)] T.int (0, 0)], by
    rw [Sort.alloc_eq_grow, Sort.alloc_eq_grow, Sort.alloc_eq_grow, Sort.grow_grow]
    unfold Sort.grow World.drew World.drewN
    simp only [Array.append_assoc]⟩
end
end Go.Proofs.Ytfchenbihepjaaa
