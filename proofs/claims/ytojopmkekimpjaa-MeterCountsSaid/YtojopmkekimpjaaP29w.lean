/- Layer 29 (meter): the waits, how many are open at once. -/
import Derived.Test.YtojopmkekimpjaaHxS
import Derived.Test.YtojopmkekimpjaaP29s
import Derived.Test.YtojopmkekimpjaaR29b
namespace Go.Proofs.Ytojopmkekimpjaa
open Go Go.HX
attribute [local irreducible] Ret XRun XOps XDr XOne Does Gives
set_option maxRecDepth 4000
set_option maxHeartbeats 1000000
theorem stC0_P29w {goal next : Prop} (k : next) (hs : Hid next → goal := by (intro k; (first | (refine gC F.slices_Sort_int_int ?_; refine p_call rfl rfl (slices_Sort_int_int_spec _ ?_ (h.rf1)) ?_; iterate 1 (first | assumption | omega | (simp only []; omega) | decide)) | fail); exact k.out)) : goal := hs ⟨k⟩
theorem stC1_P29w {goal next : Prop} (k : next) (hs : Hid next → goal := by (intro k; (first | (refine gN ?_; refine p_do rfl (d_newL h (by first | (dsimp only [Value.cells]; done) | exact rfl)) ?_) | fail); exact k.out)) : goal := hs ⟨k⟩
theorem stC2_P29w {goal next : Prop} (k : next) (hs : Hid next → goal := by (intro k; (first | (refine gS ?_; (first | refine p_do rfl (d_stwL rfl rfl rfl rfl rfl (h.pick (by repeat first | exact .here | apply Has.there)) (by first | (dsimp only [Value.cells]; done) | exact rfl)) ?_ | refine p_do rfl (d_stL rfl rfl rfl (h.pick (by repeat first | exact .here | apply Has.there)) (by first | exact of_decide_eq_true rfl | simp) (by first | (dsimp only [List.set]; done) | exact rfl)) ?_)) | fail); exact k.out)) : goal := hs ⟨k⟩
section
variable {S : SP} {w : World} {G : List HProp}

set_option maxHeartbeats 4000000 in
theorem meter_waits_spec {v : Value} (l : List EvM) (hl : l.length ≤ 1000) (hm : mayE l) (hr : ∀ w, Sat S w G → RdS w 8 v (rows evC l)) (h : Sat S w G) :
    Ret Try.prog F.meter_waits #[v] w (fun u w' => Sat S w' (ownS T.int 1 u (ints .i64 (sortI (waitsE l))) :: G)) := by
  obtain ⟨a, len, cap, rfl, _⟩ := hr w h
  have hlen := (hr w h).rlen evC_len (by decide)
  refine ret_of is_meter_waits rfl ?_
  have h := ownS_none (E := T.int) (n := 1) h
  repeat' (first | refine stPs ?_ | (refine stC0_P29w ?_; rintro _ w ⟨rfl, ⟨m, hq1, hq2, h⟩⟩) | (refine stC1_P29w ?_; rintro _ w ⟨bx, rfl, h⟩) | (refine stC2_P29w ?_; rintro _ w ⟨rfl, h⟩) | (refine p_cmp rfl rfl rfl rfl (fun hc => ?_) (fun hc => ?_) <;> simp only [cmpProp] at hc) | fail)
  refine x_keep [3, 6, 7, 8] rfl ?_
  refine x_loop_inv (fun lm le w => ∃ (i : Nat), ∃ (v : Value), lm = len - i ∧ i ≤ len ∧ le = [(3, v), (6, .slice a len cap), (7, .int .i64 len), (8, .int .i64 i)] ∧ Sat S w (ownS T.int 1 v (ints .i64 (waitsE (l.take i))) :: G)) (len) ⟨0, _, rfl, by omega, rfl, h⟩ ?_
  clear h
  rintro lm le w ⟨i, v, rfl, hi0, rfl, h⟩ ih
  obtain ⟨va, vl, vc, rfl, hvl, _⟩ := ownS_slice h .here
  rw [ints_length, Nat.mul_one] at hvl
  have hwl := waits_length (l.take i)
  rw [List.length_take] at hwl
  by_cases hi : i < len
  · obtain ⟨e, he⟩ := has_elem (show i < l.length by omega)
    obtain ⟨pa, po, rfl⟩ := (hr w h.drop).addr (by omega)
    have hn := waits_next he
    have hm1 := hm.1 e (List.mem_of_getElem? he)
    have hm2 := hm.2 e (List.mem_of_getElem? he)
    unfold EvM.right at hm1
    unfold EvM.soon at hm2
    by_cases h0 : e.to = 0
    · rw [if_neg (fun hx => hx h0), List.append_nil] at hn
      repeat' (first | (refine gL ?_; refine p_val rfl (g_ldE (i := i) evC_len rfl (hr _ h.drop) he (by omega)) ?_) | refine stP ?_ | (refine stC0_P29w ?_; rintro _ w ⟨rfl, ⟨m, hq1, hq2, h⟩⟩) | (refine stC1_P29w ?_; rintro _ w ⟨bx, rfl, h⟩) | (refine stC2_P29w ?_; rintro _ w ⟨rfl, h⟩) | (refine p_cmp rfl rfl rfl rfl (fun hc => ?_) (fun hc => ?_) <;> simp only [cmpProp] at hc) | fail)
      exact x_keep [3, 6, 7, 8] rfl (ih _ _ _ (by omega) ⟨i + 1, _, rfl, by omega, rfl, by rw [hn]; exact h.sub (.cons (by repeat first | exact .here | apply Has.there) (.skip (by repeat first | exact .refl _ | apply Sub.skip)))⟩)
    · rw [if_pos h0] at hn
      repeat' (first | (refine gL ?_; refine p_val rfl (g_ldE (i := i) evC_len rfl (hr _ h.drop) he (by omega)) ?_) | (refine p_do rfl (d_lit [.int .i64 (e.to - e.from_)] rfl rfl rfl rfl rfl h) ?_; intro v2 w h) | (refine p_do rfl (d_appR rfl rfl rfl (by decide) (h.pick (.there (.there .here))) (ownS_rd h .here) (by simp [Value.oneCell']) (by simp [ints_length]; omega) (by simp [ints_length]; omega)) ?_; intro v3 w h; rw [ints_snoc, ← hn] at h; obtain ⟨_, _, _, rfl, _, _⟩ := ownS_slice h .here) | refine stP ?_ | (refine stC0_P29w ?_; rintro _ w ⟨rfl, ⟨m, hq1, hq2, h⟩⟩) | (refine stC1_P29w ?_; rintro _ w ⟨bx, rfl, h⟩) | (refine stC2_P29w ?_; rintro _ w ⟨rfl, h⟩) | (refine p_cmp rfl rfl rfl rfl (fun hc => ?_) (fun hc => ?_) <;> simp only [cmpProp] at hc) | fail)
      exact x_keep [3, 6, 7, 8] rfl (ih _ _ _ (by omega) ⟨i + 1, _, rfl, by omega, rfl, h.sub (.cons .here (.skip (.skip (by repeat first | exact .refl _ | apply Sub.skip))))⟩)
  · rw [List.take_of_length_le (by omega)] at h hwl hvl
    repeat' (first | (refine gC F.slices_Sort_int_int ?_; refine p_call rfl rfl (sortInts (waitsE l) (by omega) h) ?_; rintro _ w ⟨rfl, m, hpm, hso, h⟩; rw [sorted_eq (hpm.trans (sortI_perm (waitsE l)).symm) hso (sortI_sorted _)] at h) | refine stP ?_ | (refine stC0_P29w ?_; rintro _ w ⟨rfl, ⟨m, hq1, hq2, h⟩⟩) | (refine stC1_P29w ?_; rintro _ w ⟨bx, rfl, h⟩) | (refine stC2_P29w ?_; rintro _ w ⟨rfl, h⟩) | (refine p_cmp rfl rfl rfl rfl (fun hc => ?_) (fun hc => ?_) <;> simp only [cmpProp] at hc) | fail)
    exact x_ret' is_meter_waits rfl h

theorem turns_next {l : List EvM} {i : Nat} {e : EvM} (he : l[i]? = some e) : turnsE (l.take (i + 1)) = turnsE (l.take i) ++ [(e.from_, 1)] ++ if e.to ≠ 0 then [(e.to, -1)] else [] := by
  rw [take_next he, turns_app]
  show _ ++ ((e.from_, 1) :: (_ ++ [])) = _
  rw [List.append_nil, List.append_assoc]
  rfl

set_option maxHeartbeats 4000000 in
theorem meter_wide_spec {v : Value} (l : List EvM) (hl : l.length ≤ 1000) (hm : mayE l) (hr : ∀ w, Sat S w G → RdS w 8 v (rows evC l)) (h : Sat S w G) :
    Ret Try.prog F.meter_wide #[v] w (fun u w' => u = .int .i64 (wideN l l : Nat) ∧ Sat S w' G) := by
  obtain ⟨a, len, cap, rfl, _⟩ := hr w h
  have hlen := (hr w h).rlen evC_len (by decide)
  refine ret_of is_meter_wide rfl ?_
  have h := ownS_none (E := T.meter_turn) (n := 2) h
  repeat' (first | refine stPs ?_ | (refine stC1_P29w ?_; rintro _ w ⟨bx, rfl, h⟩) | (refine stC2_P29w ?_; rintro _ w ⟨rfl, h⟩) | (refine p_cmp rfl rfl rfl rfl (fun hc => ?_) (fun hc => ?_) <;> simp only [cmpProp] at hc) | fail)
  refine x_keep [3, 10, 11, 12] rfl ?_
  refine x_loop_inv (fun lm le w => ∃ (i : Nat), ∃ (v : Value), lm = len - i ∧ i ≤ len ∧ le = [(3, v), (10, .slice a len cap), (11, .int .i64 len), (12, .int .i64 i)] ∧ Sat S w (ownS T.meter_turn 2 v (rows turnC (turnsE (l.take i))) :: G)) (len) ⟨0, _, rfl, by omega, rfl, h⟩ ?_
  clear h
  rintro lm le w ⟨i, v, rfl, hi0, rfl, h⟩ ih
  obtain ⟨va, vl, vc, rfl, hvl, _⟩ := ownS_slice h .here
  rw [rows_length turnC_len] at hvl
  have hwl := turns_length (l.take i)
  rw [List.length_take] at hwl
  by_cases hi : i < len
  · obtain ⟨e, he⟩ := has_elem (show i < l.length by omega)
    obtain ⟨pa, po, rfl⟩ := (hr w h.drop).addr (by omega)
    have hn := turns_next he
    by_cases h0 : e.to = 0
    · rw [if_neg (fun hx => hx h0), List.append_nil] at hn
      repeat' (first | (refine gL ?_; refine p_val rfl (g_ldE (i := i) evC_len rfl (hr _ h.drop) he (by omega)) ?_) | (refine p_do rfl (d_lit (turnC (e.from_, 1)) rfl rfl rfl rfl rfl h) ?_; intro v2 w h) | (refine p_do rfl (d_appR rfl rfl rfl (by decide) (h.pick (.there (.there .here))) (ownS_rd h .here) (turnC_one _) (by simp [rows_length turnC_len, turnC]; omega) (by simp [rows_length turnC_len, turnC]; omega)) ?_; intro v3 w h; rw [← rows_one (enc := turnC), ← rows_append, ← hn] at h; obtain ⟨_, _, _, rfl, _, _⟩ := ownS_slice h .here) | refine stP ?_ | (refine stC1_P29w ?_; rintro _ w ⟨bx, rfl, h⟩) | (refine stC2_P29w ?_; rintro _ w ⟨rfl, h⟩) | (refine p_cmp rfl rfl rfl rfl (fun hc => ?_) (fun hc => ?_) <;> simp only [cmpProp] at hc) | fail)
      exact x_keep [3, 10, 11, 12] rfl (ih _ _ _ (by omega) ⟨i + 1, _, rfl, by omega, rfl, h.sub (.cons .here (.skip (.skip (by repeat first | exact .refl _ | apply Sub.skip))))⟩)
    · rw [if_pos h0] at hn
      repeat' (first | (refine gL ?_; refine p_val rfl (g_ldE (i := i) evC_len rfl (hr _ h.drop) he (by omega)) ?_) | (refine p_do rfl (d_lit (turnC (e.from_, 1)) rfl rfl rfl rfl rfl h) ?_; intro v2 w h) | (refine p_do rfl (d_lit (turnC (e.to, -1)) rfl rfl rfl rfl rfl h) ?_; intro v2 w h) | (refine p_do rfl (d_appR rfl rfl rfl (by decide) (h.pick (.there (.there .here))) (ownS_rd h .here) (turnC_one _) (by simp [rows_length turnC_len, turnC]; omega) (by simp [rows_length turnC_len, turnC]; omega)) ?_; intro v3 w h; rw [← rows_one (enc := turnC), ← rows_append] at h; obtain ⟨_, _, _, rfl, _, _⟩ := ownS_slice h .here) | (refine p_do rfl (d_appR rfl rfl rfl (by decide) (h.pick (.there .here)) (ownS_rd h .here) (turnC_one _) (by simp [rows_length turnC_len, turnC]; omega) (by simp [rows_length turnC_len, turnC]; omega)) ?_; intro v3 w h; rw [← rows_one (enc := turnC), ← rows_append, ← hn] at h; obtain ⟨_, _, _, rfl, _, _⟩ := ownS_slice h .here) | refine stP ?_ | (refine stC1_P29w ?_; rintro _ w ⟨bx, rfl, h⟩) | (refine stC2_P29w ?_; rintro _ w ⟨rfl, h⟩) | (refine p_cmp rfl rfl rfl rfl (fun hc => ?_) (fun hc => ?_) <;> simp only [cmpProp] at hc) | fail)
      exact x_keep [3, 10, 11, 12] rfl (ih _ _ _ (by omega) ⟨i + 1, _, rfl, by omega, rfl, h.sub (.cons .here (by repeat first | exact .refl _ | apply Sub.skip))⟩)
  · rw [List.take_of_length_le (by omega)] at h hwl hvl
    repeat' (first | (refine gC F.slices_SortFunc_meter_turn_meter_turn ?_; refine p_call rfl rfl (sortTurns (turnsE l) (by omega) h) ?_; rintro _ w ⟨rfl, s, hpm, hso, h⟩) | refine stP ?_ | (refine stC1_P29w ?_; rintro _ w ⟨bx, rfl, h⟩) | (refine stC2_P29w ?_; rintro _ w ⟨rfl, h⟩) | (refine p_cmp rfl rfl rfl rfl (fun hc => ?_) (fun hc => ?_) <;> simp only [cmpProp] at hc) | fail)
    have hmw := most_wide hm.1 hpm hso
    have hsl := hpm.length_eq
    have hsb : ∀ p ∈ s, p.2 = -1 ∨ p.2 = 1 := fun p hp => by
      rcases turns_mem (hpm.mem_iff.1 hp) with h | ⟨h, _⟩
      · exact .inl h
      · exact .inr h
    refine x_keep [6, 7, 34, 35, 36] rfl ?_
    refine x_loop_inv (fun lm le w => ∃ (k : Nat), ∃ (n : Int), ∃ (m : Int), lm = vl - k ∧ k ≤ vl ∧ (-(k : Int) ≤ n ∧ n ≤ k) ∧ (0 ≤ m ∧ m ≤ k) ∧ mostT n m (s.drop k) = wideN l l ∧ le = [(6, .int .i64 n), (7, .int .i64 m), (34, .slice va vl vc), (35, .int .i64 vl), (36, .int .i64 k)] ∧ Sat S w (ownS T.meter_turn 2 (.slice va vl vc) (rows turnC s) :: G)) (vl) ⟨0, 0, 0, rfl, by omega, by omega, by omega, hmw, rfl, h⟩ ?_
    clear h
    rintro lm le w ⟨k, n, m, rfl, hi0, hi1, hi2, hi3, rfl, h⟩ ih2
    by_cases hk : k < vl
    · obtain ⟨p, hp⟩ := has_elem (show k < s.length by omega)
      have hpb := hsb p (List.mem_of_getElem? hp)
      obtain ⟨vb, rfl⟩ := ownS_addr (E := T.meter_turn) h .here (by omega)
      rw [drop_next hp] at hi3
      unfold mostT at hi3
      repeat' (first | (refine gL ?_; refine p_val rfl (g_ldE (i := k) turnC_len rfl (ownS_rd h (by repeat first | exact .here | apply Has.there)) hp (by omega)) ?_) | refine stP ?_ | (refine stC1_P29w ?_; rintro _ w ⟨bx, rfl, h⟩) | (refine stC2_P29w ?_; rintro _ w ⟨rfl, h⟩) | (refine p_cmp rfl rfl rfl rfl (fun hc => ?_) (fun hc => ?_) <;> simp only [cmpProp] at hc) | fail)
      exact x_keep [6, 7, 34, 35, 36] rfl (ih2 _ _ _ (by omega) ⟨k + 1, n + p.2, max m (n + p.2), rfl, by omega, by omega, by omega, hi3, rfl, h.sub (.cons (by repeat first | exact .here | apply Has.there) (.skip (by repeat first | exact .refl _ | apply Sub.skip)))⟩)
    · rw [List.drop_of_length_le (by omega)] at hi3
      have hi3 : m = wideN l l := hi3
      repeat' (first | refine stPs ?_ | (refine stC1_P29w ?_; rintro _ w ⟨bx, rfl, h⟩) | (refine stC2_P29w ?_; rintro _ w ⟨rfl, h⟩) | (refine p_cmp rfl rfl rfl rfl (fun hc => ?_) (fun hc => ?_) <;> simp only [cmpProp] at hc) | fail)
      exact x_ret' is_meter_wide rfl ⟨by rw [hi3]; rfl, h.drop⟩
end
end Go.Proofs.Ytojopmkekimpjaa
