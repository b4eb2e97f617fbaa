/- Layer 16 (entry): what each function computes, and the document's answers. -/
import Derived.Test.YtmlkeackapflhaaHxS
import Derived.Test.YtmlkeackapflhaaP01j
import Derived.Test.YtmlkeackapflhaaL08
namespace Go.Proofs.Ytmlkeackapflhaa
open Go Go.HX
attribute [local irreducible] Ret XRun XOps XDr XOne Does Gives
set_option maxRecDepth 4000
set_option maxHeartbeats 1000000
structure EntM where
  addr : Int
  tag : Int
  fresh : Bool
def entC (e : EntM) : List Value := [.int .u64 e.addr, .int .u64 e.tag, .bool e.fresh]
def entOk (e : EntM) : Prop := e.addr ≤ 281474976710655 ∧ e.tag ≤ 16383 ∧ (e.fresh = true ↔ e.addr = 0)
instance (e : EntM) : Decidable (entOk e) := inferInstanceAs (Decidable (_ ∧ _ ∧ _))
def packE (e : EntM) : Int × Int := if entOk e then (9223372036854775808 + e.tag * 281474976710656 + e.addr + (if e.fresh = true then 4611686018427387904 else 0), 0) else (0, 1)
def entOf (w : Int) : EntM := ⟨w % 281474976710656, w / 281474976710656 % 16384, decide (w / 4611686018427387904 % 2 = 1)⟩
def unpackE (w : Int) : EntM × Int := if w = 0 then (⟨0, 0, false⟩, 7) else if w < 9223372036854775808 ∨ ¬ entOk (entOf w) then (⟨0, 0, false⟩, 4) else (entOf w, 0)
theorem BoolIs_dec {v : Value} {p : Prop} [Decidable p] (h : BoolIs v p) : v = .bool (decide p) := by
  rcases h with ⟨rfl, hp⟩ | ⟨rfl, hp⟩
  · rw [decide_eq_true hp]
  · rw [decide_eq_false hp]
theorem dec_BoolIs {p : Prop} [Decidable p] : BoolIs (.bool (decide p)) p := by
  by_cases hp : p
  · rw [decide_eq_true hp]; exact .t hp
  · rw [decide_eq_false hp]; exact .f hp
theorem set_top {x : Int} (a : Int) (on : Bool) (ha : fRight a 1) (h0 : 0 ≤ x) (h1 : x < 2 ^ a.toNat) : setZ x a on = x + (if on = true then 2 ^ a.toNat else 0) := by
  have m1 : mostZ 1 = 1 := rfl
  unfold setZ
  cases on
  · have e : putV x a 1 0 = (x + 0 * 2 ^ a.toNat, 0) := putV_next ha h0 h1 (by decide)
    simp [e]
  · have e : putV x a 1 1 = (x + 1 * 2 ^ a.toNat, 0) := putV_next ha h0 h1 (by decide)
    simp [e]
theorem join_entry {a t : Int} (a0 : 0 ≤ a) (a1 : a ≤ 281474976710655) (t0 : 0 ≤ t) (t1 : t ≤ 16383) : joinV 0 0 [a, t] [48, 14] = (a + t * 281474976710656, 0) := by
  have m48 : mostZ 48 = 281474976710655 := rfl
  have m14 : mostZ 14 = 16383 := rfl
  have e1 : putV 0 0 48 a = (a, 0) := by
    rw [putV_next (by decide) (by decide) (by decide) (by omega)]
    congr 1
    show 0 + a * 1 = a
    omega
  have e2 : putV a 48 14 t = (a + t * 281474976710656, 0) := putV_next (by decide) a0 (by show a < 281474976710656; omega) (by omega)
  rw [joinV, e1, if_pos rfl, joinV, show ((0 : Int) + 48) = 48 from rfl, e2, if_pos rfl, joinV]
  all_goals simp
theorem unpack_pack {e : EntM} (a0 : 0 ≤ e.addr) (t0 : 0 ≤ e.tag) (h : entOk e) : unpackE (packE e).1 = (e, 0) ∧ (packE e).1 ≠ 0 ∧ (packE e).2 = 0 ∧ 0 ≤ (packE e).1 ∧ (packE e).1 ≤ 18446744073709551615 := by
  obtain ⟨a, t, f⟩ := e
  have h' := h
  unfold entOk at h'
  simp only at h' a0 t0
  have hw : (packE ⟨a, t, f⟩).1 = 9223372036854775808 + t * 281474976710656 + a + (if f = true then 4611686018427387904 else 0) := by rw [packE, if_pos h]
  have hz : (packE ⟨a, t, f⟩).2 = 0 := by rw [packE, if_pos h]
  have hb : 9223372036854775808 ≤ (packE ⟨a, t, f⟩).1 ∧ (packE ⟨a, t, f⟩).1 ≤ 18446744073709551615 ∧ (packE ⟨a, t, f⟩).1 % 281474976710656 = a ∧ (packE ⟨a, t, f⟩).1 / 281474976710656 % 16384 = t ∧ ((packE ⟨a, t, f⟩).1 / 4611686018427387904 % 2 = 1 ↔ f = true) := by
    rw [hw]
    cases f <;> simp <;> omega
  have ho : entOf (packE ⟨a, t, f⟩).1 = ⟨a, t, f⟩ := by
    unfold entOf
    rw [hb.2.2.1, hb.2.2.2.1]
    congr 1
    cases f
    · exact decide_eq_false (fun hx => by simpa using hb.2.2.2.2.1 hx)
    · exact decide_eq_true (hb.2.2.2.2.2 rfl)
  refine ⟨?_, by omega, hz, by omega, by omega⟩
  rw [unpackE, if_neg (by omega), ho, if_neg (by rintro (h1 | h1); omega; exact h1 h)]
theorem unpack_bounds {w : Int} (_h0 : 0 ≤ w) : 0 ≤ (unpackE w).1.addr ∧ (unpackE w).1.addr ≤ 18446744073709551615 ∧ 0 ≤ (unpackE w).1.tag ∧ (unpackE w).1.tag ≤ 16383 := by
  unfold unpackE entOf
  split
  · simp
  · split
    · simp
    · simp only; omega
section
variable {S : SP} {w : World} {G : List HProp}

theorem entry_Right_spec (e : EntM) (h : Sat S w G) : Ret Try.prog F.entry_Right #[.agg (entC e).toArray] w (fun v w' => BoolIs v (entOk e) ∧ Sat S w' G) := by
  obtain ⟨a, t, f⟩ := e
  have m14 : mostZ 14 = 16383 := rfl
  refine ret_of is_entry_Right rfl ?_
  show XRun _ _ _ _ (envOf 0 [.agg #[.int .u64 a, .int .u64 t, .bool f]]) _ _
  cases f
  all_goals
    repeat' (first | (refine p_do rfl (d_box rfl h) ?_; rintro _ w ⟨b3, rfl, h⟩) | (refine gCR F.field_Most ?_; refine r_call rfl rfl rfl (field_Most_spec _ h) ?_; rintro _ w ⟨rfl, h⟩; refine nowa ?_) | refine stP ?_ | (refine p_cmp rfl rfl rfl rfl (fun hc => ?_) (fun hc => ?_) <;> simp only [cmpProp] at hc) | (refine r_cmp rfl rfl rfl rfl rfl (fun hc => ?_) (fun hc => ?_) <;> simp only [cmpProp] at hc) | (refine x_drawn rfl ?_; have h := h.drew) | refine x_drawn rfl ?_ | fail)
  all_goals refine x_ret' is_entry_Right rfl ⟨?_, h.drop⟩
  all_goals first | exact .t ⟨by simp only; omega, by simp only; omega, by simp; omega⟩ | exact .f (fun hx => by have h1 := hx.1; have h2 := hx.2.1; have h3 := hx.2.2; simp at h1 h2 h3; omega)

theorem ref16_Right_spec (e : EntM) (h0 : 0 ≤ e.addr) (h : Sat S w G) : Ret Try.prog F.ref16_Right #[.agg (entC e).toArray] w (fun v w' => BoolIs v (entOk e) ∧ Sat S w' G) := by
  obtain ⟨a, t, f⟩ := e
  simp only at h0
  refine ret_of is_ref16_Right rfl ?_
  show XRun _ _ _ _ (envOf 0 [.agg #[.int .u64 a, .int .u64 t, .bool f]]) _ _
  cases f
  all_goals
    repeat' (first | (refine p_do rfl (d_box rfl h) ?_; rintro _ w ⟨b3, rfl, h⟩) | refine stP ?_ | (refine p_cmp rfl rfl rfl rfl (fun hc => ?_) (fun hc => ?_) <;> simp only [cmpProp] at hc) | fail)
  all_goals refine x_ret' is_ref16_Right rfl ⟨?_, h.drop⟩
  all_goals first | exact .t ⟨by simp only; omega, by simp only; omega, by simp; omega⟩ | exact .f (fun hx => by have h1 := hx.1; have h2 := hx.2.1; have h3 := hx.2.2; simp at h1 h2 h3; omega)

theorem entry_Pack_spec (e : EntM) (a0 : 0 ≤ e.addr) (t0 : 0 ≤ e.tag) (h : Sat S w G) : Ret Try.prog F.entry_Pack #[.agg (entC e).toArray] w (fun v w' => v = .tuple #[.int .u64 (packE e).1, .int .i64 (packE e).2] ∧ Sat S w' G) := by
  refine ret_of is_entry_Pack rfl ?_
  repeat' (first | (refine p_do rfl (d_box rfl h) ?_; rintro _ w ⟨b3, rfl, h⟩) | refine stP ?_ | fail)
  refine p_call rfl rfl (entry_Right_spec e h) ?_
  rintro _ w ⟨⟨rfl, hok⟩ | ⟨rfl, hok⟩, h⟩
  · have hok' := hok
    unfold entOk at hok'
    have hfit : fitP 64 [48, 14] := by decide
    have hj := join_entry a0 hok'.1 t0 hok'.2.1
    have hv : ∀ j, 0 ≤ [e.addr, e.tag].getD j 0 := fun j => by rcases j with _ | _ | j <;> simp <;> omega
    have hw : ∀ j, -9223372036854775808 ≤ [(48 : Int), 14].getD j 0 ∧ [(48 : Int), 14].getD j 0 ≤ 9223372036854775807 := fun j => by rcases j with _ | _ | j <;> simp
    repeat' (first | refine stPs ?_ | fail)
    refine p_lit [.int .u64 e.addr, .int .u64 e.tag] rfl rfl rfl rfl rfl rfl h (fun v w h => ?_)
    refine p_lit [.int .i64 48, .int .i64 14] rfl rfl rfl rfl rfl rfl h (fun v w h => ?_)
    refine p_call rfl rfl (field_Join_spec [e.addr, e.tag] [48, 14] (by decide) hw hv (fun w h => ownS_rd h (by repeat first | exact .here | apply Has.there)) (fun w h => ownS_rd h (by repeat first | exact .here | apply Has.there)) h) ?_
    rintro _ w ⟨rfl, h⟩
    rw [if_pos ⟨rfl, hfit⟩, hj]
    have h62 : (2 : Int) ^ (62 : Int).toNat = 4611686018427387904 := rfl
    have h63 : (2 : Int) ^ (63 : Int).toNat = 9223372036854775808 := rfl
    have e1 : setZ (e.addr + e.tag * 281474976710656) 62 e.fresh = e.addr + e.tag * 281474976710656 + (if e.fresh = true then 4611686018427387904 else 0) := by
      rw [set_top 62 e.fresh (by decide) (by omega) (by rw [h62]; omega), h62]
    have hf : 0 ≤ (if e.fresh = true then (4611686018427387904 : Int) else 0) ∧ (if e.fresh = true then (4611686018427387904 : Int) else 0) ≤ 4611686018427387904 := by split <;> omega
    have e2 : setZ (e.addr + e.tag * 281474976710656 + (if e.fresh = true then 4611686018427387904 else 0)) 63 true = 9223372036854775808 + e.tag * 281474976710656 + e.addr + (if e.fresh = true then 4611686018427387904 else 0) := by
      rw [set_top 63 true (by decide) (by omega) (by rw [h63]; omega), h63, if_pos rfl]
      omega
    repeat' (first | refine stPs ?_ | fail)
    refine p_call rfl rfl (field_Set_spec _ 62 e.fresh (by omega) (by omega) h) ?_
    rintro _ w ⟨rfl, h⟩
    rw [e1]
    repeat' (first | refine stPs ?_ | fail)
    refine p_call rfl rfl (field_Set_spec _ 63 true (by omega) (by omega) h) ?_
    rintro _ w ⟨rfl, h⟩
    rw [e2]
    repeat' (first | refine stPs ?_ | fail)
    exact x_ret' is_entry_Pack rfl ⟨by rw [packE, if_pos hok]; rfl, h.drop.drop.drop⟩
  · repeat' (first | refine stPs ?_ | fail)
    exact x_ret' is_entry_Pack rfl ⟨by rw [packE, if_neg hok]; rfl, h.drop⟩

theorem ref16_Pack_spec (e : EntM) (a0 : 0 ≤ e.addr) (t0 : 0 ≤ e.tag) (h : Sat S w G) : Ret Try.prog F.ref16_Pack #[.agg (entC e).toArray] w (fun v w' => v = .tuple #[.int .u64 (packE e).1, .int .i64 (packE e).2] ∧ Sat S w' G) := by
  refine ret_of is_ref16_Pack rfl ?_
  repeat' (first | (refine p_do rfl (d_box rfl h) ?_; rintro _ w ⟨b3, rfl, h⟩) | refine stP ?_ | fail)
  refine p_call rfl rfl (ref16_Right_spec e a0 h) ?_
  rintro _ w ⟨⟨rfl, hok⟩ | ⟨rfl, hok⟩, h⟩
  · rw [packE, if_pos hok]
    unfold entOk at hok
    obtain ⟨a, t, f⟩ := e
    simp only at hok a0 t0
    cases f
    · have h : Sat S _ (pt _ (.cells #[.int .u64 a, .int .u64 t, .bool false] _ (0, 0)) :: G) := h
      repeat' (first | refine stPs ?_ | fail)
      exact x_ret' is_ref16_Pack rfl ⟨by simp; rfl, h.drop⟩
    · have h : Sat S _ (pt _ (.cells #[.int .u64 a, .int .u64 t, .bool true] _ (0, 0)) :: G) := h
      repeat' (first | refine stPs ?_ | fail)
      exact x_ret' is_ref16_Pack rfl ⟨by simp; rfl, h.drop⟩
  · repeat' (first | refine stPs ?_ | fail)
    exact x_ret' is_ref16_Pack rfl ⟨by rw [packE, if_neg hok]; rfl, h.drop⟩

theorem entry_Fresh_spec (t : Int) (t0 : 0 ≤ t) (h : Sat S w G) : Ret Try.prog F.entry_Fresh #[.int .u64 t] w (fun v w' => v = .tuple #[.int .u64 (packE ⟨0, t, true⟩).1, .int .i64 (packE ⟨0, t, true⟩).2] ∧ Sat S w' G) := by
  refine ret_of is_entry_Fresh rfl ?_
  repeat' (first | refine stPs ?_ | fail)
  refine p_call rfl rfl (entry_Pack_spec ⟨0, t, true⟩ (by simp) t0 h) ?_
  rintro _ w ⟨rfl, h⟩
  repeat' (first | refine stPs ?_ | fail)
  exact x_ret' is_entry_Fresh rfl ⟨rfl, h⟩

set_option maxHeartbeats 3000000 in
theorem entry_Unpack_spec (x : Int) (h0 : 0 ≤ x) (h1 : x ≤ 18446744073709551615) (h : Sat S w G) : Ret Try.prog F.entry_Unpack #[.int .u64 x] w (fun v w' => v = .tuple #[.agg (entC (unpackE x).1).toArray, .int .i64 (unpackE x).2] ∧ Sat S w' G) := by
  have e0 : getV x 0 48 = x % 281474976710656 := by
    rw [getV, if_pos (by decide)]
    show x / 1 % 281474976710656 = _
    omega
  have e1 : getV x 48 14 = x / 281474976710656 % 16384 := by rw [getV, if_pos (by decide)]; rfl
  have e2 : getV x 62 1 = x / 4611686018427387904 % 2 := by rw [getV, if_pos (by decide)]; rfl
  have e3 := get_63 h0 h1
  refine ret_of is_entry_Unpack rfl ?_
  repeat' (first | refine stPs ?_ | (refine p_cmp rfl rfl rfl rfl (fun hc => ?_) (fun hc => ?_) <;> simp only [cmpProp] at hc) | fail)
  refine p_do rfl (d_new h) ?_
  rintro _ w ⟨b2, rfl, h⟩
  repeat' (first | refine stPs ?_ | (refine p_cmp rfl rfl rfl rfl (fun hc => ?_) (fun hc => ?_) <;> simp only [cmpProp] at hc) | fail)
  refine p_call rfl rfl (field_Get_spec x 0 48 h0 h1 h) ?_
  rintro _ w ⟨rfl, h⟩
  rw [e0]
  repeat' (first | refine stPs ?_ | (refine p_cmp rfl rfl rfl rfl (fun hc => ?_) (fun hc => ?_) <;> simp only [cmpProp] at hc) | fail)
  refine p_call rfl rfl (field_Get_spec x 48 14 h0 h1 h) ?_
  rintro _ w ⟨rfl, h⟩
  rw [e1]
  repeat' (first | refine stPs ?_ | (refine p_cmp rfl rfl rfl rfl (fun hc => ?_) (fun hc => ?_) <;> simp only [cmpProp] at hc) | fail)
  refine p_call rfl rfl (field_Flag_spec x 62 h0 h1 h) ?_
  rintro vf w ⟨hvf, h⟩
  rw [e2] at hvf
  obtain rfl := BoolIs_dec hvf
  repeat' (first | refine stPs ?_ | (refine p_cmp rfl rfl rfl rfl (fun hc => ?_) (fun hc => ?_) <;> simp only [cmpProp] at hc) | fail)
  refine p_do rfl (d_new h) ?_
  rintro _ w ⟨b4, rfl, h⟩
  refine p_do rfl (d_stn rfl rfl rfl (by simp [Value.cells, Value.oneCell']) h (by decide)) ?_
  rintro _ w ⟨rfl, h⟩
  have h : Sat S w (pt b4 (.cells (entC (entOf x)).toArray T.api_Entry (0, 0)) :: pt b2 (.cells #[.int .u64 0, .int .u64 0, .bool false] T.api_Entry (0, 0)) :: G) := h
  by_cases hx : x = 0
  · repeat' (first | refine stPs ?_ | (refine p_cmp rfl rfl rfl rfl (fun hc => ?_) (fun hc => ?_) <;> simp only [cmpProp] at hc) | fail)
    refine p_do rfl (d_stn rfl rfl rfl (by decide) (h.pick (by repeat first | exact .here | apply Has.there)) (by decide)) ?_
    rintro _ w ⟨rfl, h⟩
    repeat' (first | refine stPs ?_ | (refine p_cmp rfl rfl rfl rfl (fun hc => ?_) (fun hc => ?_) <;> simp only [cmpProp] at hc) | fail)
    exact x_retc1 is_entry_Unpack rfl rfl h (by kernel_rfl) rfl ⟨by rw [unpackE, if_pos hx]; rfl, h.drop.drop⟩
  · repeat' (first | refine stPs ?_ | (refine p_cmp rfl rfl rfl rfl (fun hc => ?_) (fun hc => ?_) <;> simp only [cmpProp] at hc) | fail)
    refine p_call rfl rfl (field_Flag_spec x 63 h0 h1 h) ?_
    rintro _ w ⟨⟨rfl, hp⟩ | ⟨rfl, hp⟩, h⟩
    · rw [e3] at hp
      repeat' (first | refine stPs ?_ | (refine p_cmp rfl rfl rfl rfl (fun hc => ?_) (fun hc => ?_) <;> simp only [cmpProp] at hc) | fail)
      refine p_call rfl rfl (entry_Right_spec (entOf x) h) ?_
      rintro _ w ⟨⟨rfl, hok⟩ | ⟨rfl, hok⟩, h⟩
      · repeat' (first | refine stPs ?_ | (refine p_cmp rfl rfl rfl rfl (fun hc => ?_) (fun hc => ?_) <;> simp only [cmpProp] at hc) | fail)
        refine p_do rfl (d_stn rfl rfl rfl (by simp [Value.cells, Value.oneCell', entC]) (h.pick (.there .here)) (by decide)) ?_
        rintro _ w ⟨rfl, h⟩
        repeat' (first | refine stPs ?_ | (refine p_cmp rfl rfl rfl rfl (fun hc => ?_) (fun hc => ?_) <;> simp only [cmpProp] at hc) | fail)
        exact x_retc1 is_entry_Unpack rfl rfl h (by kernel_rfl) rfl ⟨by rw [unpackE, if_neg hx, if_neg (by rintro (h1 | h1); omega; exact h1 hok)]; rfl, h.drop.drop⟩
      · repeat' (first | refine stPs ?_ | (refine p_cmp rfl rfl rfl rfl (fun hc => ?_) (fun hc => ?_) <;> simp only [cmpProp] at hc) | fail)
        refine p_do rfl (d_stn rfl rfl rfl (by decide) (h.pick (.there .here)) (by decide)) ?_
        rintro _ w ⟨rfl, h⟩
        repeat' (first | refine stPs ?_ | (refine p_cmp rfl rfl rfl rfl (fun hc => ?_) (fun hc => ?_) <;> simp only [cmpProp] at hc) | fail)
        exact x_retc1 is_entry_Unpack rfl rfl h (by kernel_rfl) rfl ⟨by rw [unpackE, if_neg hx, if_pos (.inr hok)]; rfl, h.drop.drop⟩
    · rw [e3] at hp
      repeat' (first | refine stPs ?_ | (refine p_cmp rfl rfl rfl rfl (fun hc => ?_) (fun hc => ?_) <;> simp only [cmpProp] at hc) | fail)
      refine p_do rfl (d_stn rfl rfl rfl (by decide) (h.pick (.there .here)) (by decide)) ?_
      rintro _ w ⟨rfl, h⟩
      repeat' (first | refine stPs ?_ | (refine p_cmp rfl rfl rfl rfl (fun hc => ?_) (fun hc => ?_) <;> simp only [cmpProp] at hc) | fail)
      exact x_retc1 is_entry_Unpack rfl rfl h (by kernel_rfl) rfl ⟨by rw [unpackE, if_neg hx, if_pos (.inl (by omega))]; rfl, h.drop.drop⟩

set_option maxHeartbeats 3000000 in
theorem ref16_Unpack_spec (x : Int) (h0 : 0 ≤ x) (h1 : x ≤ 18446744073709551615) (h : Sat S w G) : Ret Try.prog F.ref16_Unpack #[.int .u64 x] w (fun v w' => v = .tuple #[.agg (entC (unpackE x).1).toArray, .int .i64 (unpackE x).2] ∧ Sat S w' G) := by
  refine ret_of is_ref16_Unpack rfl ?_
  repeat' (first | refine stPs ?_ | (refine p_cmp rfl rfl rfl rfl (fun hc => ?_) (fun hc => ?_) <;> simp only [cmpProp] at hc) | fail)
  refine p_do rfl (d_new h) ?_
  rintro _ w ⟨b2, rfl, h⟩
  by_cases hx : x = 0
  · repeat' (first | refine stPs ?_ | (refine p_cmp rfl rfl rfl rfl (fun hc => ?_) (fun hc => ?_) <;> simp only [cmpProp] at hc) | fail)
    refine p_do rfl (d_stn rfl rfl rfl (by decide) h (by decide)) ?_
    rintro _ w ⟨rfl, h⟩
    repeat' (first | refine stPs ?_ | (refine p_cmp rfl rfl rfl rfl (fun hc => ?_) (fun hc => ?_) <;> simp only [cmpProp] at hc) | fail)
    exact x_retc1 is_ref16_Unpack rfl rfl h (by kernel_rfl) rfl ⟨by rw [unpackE, if_pos hx]; rfl, h.drop⟩
  · repeat' (first | refine stPs ?_ | (refine p_cmp rfl rfl rfl rfl (fun hc => ?_) (fun hc => ?_) <;> simp only [cmpProp] at hc) | fail)
    all_goals
      refine p_do rfl (d_new h) ?_
      rintro _ w ⟨b4, rfl, h⟩
      refine p_do rfl (d_stn rfl rfl rfl (by simp [Value.cells, Value.oneCell']) h (by decide)) ?_
      rintro _ w ⟨rfl, h⟩
      have hent : entOf x = ⟨x % 281474976710656, x / 281474976710656 % 16384, decide (x / 4611686018427387904 % 2 = 1)⟩ := rfl
      first | rw [decide_eq_true hc] at hent | rw [decide_eq_false hc] at hent
      have h : Sat S w (pt b4 (.cells (entC (entOf x)).toArray T.api_Entry (0, 0)) :: pt b2 (.cells #[.int .u64 0, .int .u64 0, .bool false] T.api_Entry (0, 0)) :: G) := by rw [hent]; exact h
      by_cases hl : x < 9223372036854775808
      · repeat' (first | refine stPs ?_ | (refine p_cmp rfl rfl rfl rfl (fun hc => ?_) (fun hc => ?_) <;> simp only [cmpProp] at hc) | fail)
        refine p_do rfl (d_stn rfl rfl rfl (by decide) (h.pick (.there .here)) (by decide)) ?_
        rintro _ w ⟨rfl, h⟩
        repeat' (first | refine stPs ?_ | (refine p_cmp rfl rfl rfl rfl (fun hc => ?_) (fun hc => ?_) <;> simp only [cmpProp] at hc) | fail)
        exact x_retc1 is_ref16_Unpack rfl rfl h (by kernel_rfl) rfl ⟨by rw [unpackE, if_neg hx, if_pos (.inl hl)]; rfl, h.drop.drop⟩
      · repeat' (first | refine stPs ?_ | (refine p_cmp rfl rfl rfl rfl (fun hc => ?_) (fun hc => ?_) <;> simp only [cmpProp] at hc) | fail)
        refine p_call rfl rfl (ref16_Right_spec (entOf x) (by unfold entOf; simp only; omega) h) ?_
        rintro _ w ⟨⟨rfl, hok⟩ | ⟨rfl, hok⟩, h⟩
        · repeat' (first | refine stPs ?_ | (refine p_cmp rfl rfl rfl rfl (fun hc => ?_) (fun hc => ?_) <;> simp only [cmpProp] at hc) | fail)
          refine p_do rfl (d_stn rfl rfl rfl (by simp [Value.cells, Value.oneCell', entC]) (h.pick (.there .here)) (by decide)) ?_
          rintro _ w ⟨rfl, h⟩
          repeat' (first | refine stPs ?_ | (refine p_cmp rfl rfl rfl rfl (fun hc => ?_) (fun hc => ?_) <;> simp only [cmpProp] at hc) | fail)
          exact x_retc1 is_ref16_Unpack rfl rfl h (by kernel_rfl) rfl ⟨by rw [unpackE, if_neg hx, if_neg (by rintro (h1 | h1); omega; exact h1 hok)]; rfl, h.drop.drop⟩
        · repeat' (first | refine stPs ?_ | (refine p_cmp rfl rfl rfl rfl (fun hc => ?_) (fun hc => ?_) <;> simp only [cmpProp] at hc) | fail)
          refine p_do rfl (d_stn rfl rfl rfl (by decide) (h.pick (.there .here)) (by decide)) ?_
          rintro _ w ⟨rfl, h⟩
          repeat' (first | refine stPs ?_ | (refine p_cmp rfl rfl rfl rfl (fun hc => ?_) (fun hc => ?_) <;> simp only [cmpProp] at hc) | fail)
          exact x_retc1 is_ref16_Unpack rfl rfl h (by kernel_rfl) rfl ⟨by rw [unpackE, if_neg hx, if_pos (.inr hok)]; rfl, h.drop.drop⟩

theorem entry_Has_spec (x t : Int) (h0 : 0 ≤ x) (h1 : x ≤ 18446744073709551615) (h : Sat S w G) : Ret Try.prog F.entry_Has #[.int .u64 x, .int .u64 t] w (fun v w' => BoolIs v ((unpackE x).2 = 0 ∧ (unpackE x).1.tag = t) ∧ Sat S w' G) := by
  refine ret_of is_entry_Has rfl ?_
  repeat' (first | refine stPs ?_ | (refine p_cmp rfl rfl rfl rfl (fun hc => ?_) (fun hc => ?_) <;> simp only [cmpProp] at hc) | fail)
  refine p_call rfl rfl (entry_Unpack_spec x h0 h1 h) ?_
  rintro _ w ⟨rfl, h⟩
  repeat' (first | (refine p_do rfl (d_new h) ?_; rintro _ w ⟨b5, rfl, h⟩) | (refine p_do rfl (d_stn rfl rfl rfl (by simp [Value.cells, Value.oneCell', entC]) h (by decide)) ?_; rintro _ w ⟨rfl, h⟩) | refine stP ?_ | (refine p_cmp rfl rfl rfl rfl (fun hc => ?_) (fun hc => ?_) <;> simp only [cmpProp] at hc) | fail)
  all_goals refine x_ret' is_entry_Has rfl ⟨?_, h.drop⟩
  all_goals first | exact .t ⟨by assumption, by assumption⟩ | exact .f (fun hx => by first | exact absurd hx.1 (by assumption) | exact absurd hx.2 (by assumption))

theorem entry_To_spec (x a : Int) (h0 : 0 ≤ x) (h1 : x ≤ 18446744073709551615) (a0 : 0 ≤ a) (h : Sat S w G) : Ret Try.prog F.entry_To #[.int .u64 x, .int .u64 a] w (fun v w' => v = (if (unpackE x).2 = 0 then .tuple #[.int .u64 (packE ⟨a, (unpackE x).1.tag, false⟩).1, .int .i64 (packE ⟨a, (unpackE x).1.tag, false⟩).2] else .tuple #[.int .u64 0, .int .i64 (unpackE x).2]) ∧ Sat S w' G) := by
  refine ret_of is_entry_To rfl ?_
  have hb := unpack_bounds h0
  repeat' (first | refine stPs ?_ | (refine p_cmp rfl rfl rfl rfl (fun hc => ?_) (fun hc => ?_) <;> simp only [cmpProp] at hc) | fail)
  refine p_call rfl rfl (entry_Unpack_spec x h0 h1 h) ?_
  rintro _ w ⟨rfl, h⟩
  repeat' (first | (refine p_do rfl (d_new h) ?_; rintro _ w ⟨b5, rfl, h⟩) | (refine p_do rfl (d_stn rfl rfl rfl (by simp [Value.cells, Value.oneCell', entC]) h (by decide)) ?_; rintro _ w ⟨rfl, h⟩) | (refine p_do rfl (d_st rfl rfl rfl (h.pick (by repeat first | exact .here | apply Has.there)) (by simp [Value.cells, setR, entC])) ?_; rintro _ w ⟨rfl, h⟩) | refine stP ?_ | (refine p_cmp rfl rfl rfl rfl (fun hc => ?_) (fun hc => ?_) <;> simp only [cmpProp] at hc) | fail)
  · exact x_ret' is_entry_To rfl ⟨by rw [if_neg hc]; rfl, h.drop⟩
  · refine p_call rfl rfl (entry_Pack_spec ⟨a, (unpackE x).1.tag, false⟩ a0 hb.2.2.1 h) ?_
    rintro _ w ⟨rfl, h⟩
    repeat' (first | refine stPs ?_ | (refine p_cmp rfl rfl rfl rfl (fun hc => ?_) (fun hc => ?_) <;> simp only [cmpProp] at hc) | fail)
    exact x_ret' is_entry_To rfl ⟨by rw [if_pos (by omega)]; rfl, h.drop⟩
end
end Go.Proofs.Ytmlkeackapflhaa
