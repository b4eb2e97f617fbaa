/- Layer 29 (meter): the law MeterShares; what the laws are asked. -/
import Derived.Test.YtojopmkekimpjaaHxS
import Derived.Test.YtojopmkekimpjaaW29m
namespace Go.Proofs.Ytojopmkekimpjaa
open Go Go.HX
attribute [local irreducible] Ret XRun XOps XDr XOne Does Gives
set_option maxRecDepth 4000
set_option maxHeartbeats 1000000
theorem stC0_W29s {goal next : Prop} (k : next) (hs : Hid next → goal := by (intro k; (first | (refine gC F.law29_awake ?_; refine p_call rfl rfl (law29_awake_spec h) ?_) | (refine gS ?_; (first | refine p_do rfl (d_stwL rfl rfl rfl rfl rfl (h.pick (by repeat first | exact .here | apply Has.there)) (by first | (dsimp only [Value.cells]; done) | exact rfl)) ?_ | refine p_do rfl (d_stL rfl rfl rfl (h.pick (by repeat first | exact .here | apply Has.there)) (by first | exact of_decide_eq_true rfl | simp) (by first | (dsimp only [List.set]; done) | exact rfl)) ?_)) | fail); exact k.out)) : goal := hs ⟨k⟩
theorem stC1_W29s {goal next : Prop} (k : next) (hs : Hid next → goal := by (intro k; (first | (refine gN ?_; refine p_do rfl (d_newL h (by first | (dsimp only [Value.cells]; done) | exact rfl)) ?_) | fail); exact k.out)) : goal := hs ⟨k⟩
theorem shareV_nil (part of : Int) : shareV [] part of = 0 := by unfold shareV; simp
section
variable {S : SP} {w : World} {G : List HProp}

set_option maxHeartbeats 16000000 in
theorem law29_MeterShares_spec {v1 : Value} (l : List EvM) (part of : Int) (hA : Old S 8 v1 (rows evC l)) (h : Sat S w G) :
    Ret Try.prog F.law29_MeterShares #[v1, .int .i64 part, .int .i64 of] w (fun v w' => v = .bool true ∧ Sat S w' []) := by
  obtain ⟨va, vl, vc, rfl, _⟩ := hA _ w h
  have hvl := (hA _ w h).rlen evC_len (by decide)
  refine ret_of is_law29_MeterShares rfl ?_
  by_cases h100 : 100 < vl
  · repeat' (first | (refine gC F.law29_awake ?_; refine p_call rfl rfl (law29_awake_spec h) ?_; rintro _ w ⟨rfl, h⟩) | refine stP ?_ | (refine stC0_W29s ?_; rintro _ w ⟨rfl, h⟩) | (refine stC1_W29s ?_; rintro _ w ⟨bx, rfl, h⟩) | (refine p_cmp rfl rfl rfl rfl (fun hc => ?_) (fun hc => ?_) <;> simp only [cmpProp] at hc) | fail)
    exact x_ret' is_law29_MeterShares rfl ⟨rfl, h.nil⟩
  by_cases hok : mayE l ∧ (1 ≤ of ∧ of ≤ 1000) ∧ 0 ≤ part ∧ part ≤ of
  · have hok2 := hok
    obtain ⟨hm, ⟨o1, o2⟩, p1, p2⟩ := hok2
    have hwl := (sortI_perm (waitsE l)).length_eq
    have hwl2 := waits_length l
    have hso := sortI_sorted (waitsE l)
    by_cases hv : (sortI (waitsE l)).length = 0
    · have hs0 : sortI (waitsE l) = [] := List.eq_nil_of_length_eq_zero hv
      repeat' (first | (refine gC F.law29_awake ?_; refine p_call rfl rfl (law29_awake_spec h) ?_; rintro _ w ⟨rfl, h⟩) | (refine gC F.meter_Share ?_; refine p_call rfl rfl (meter_Share_spec l part of (by omega) (fun w h => hA _ w h) h) ?_; rw [hs0, shareV_nil]; rintro _ w (⟨hx, _⟩ | ⟨_, rfl, h⟩); exact absurd hok hx) | (refine gC F.ref29_May ?_; refine p_call rfl rfl (ref29_May_spec l (by omega) (fun w h => hA _ w h) h) ?_; rintro _ w ⟨(⟨rfl, hb⟩ | ⟨rfl, hb⟩), h⟩; rotate_left; exact absurd hm hb) | (refine gC F.ref29_Waits ?_; refine p_call rfl rfl (ref29_Waits_spec l (by omega) hm (fun w h => hA _ w h) h) ?_; intro u w h; obtain ⟨sa, sl, sc, rfl, hsl, _⟩ := ownS_slice h .here; rw [ints_length, Nat.mul_one] at hsl) | refine stP ?_ | (refine stC0_W29s ?_; rintro _ w ⟨rfl, h⟩) | (refine stC1_W29s ?_; rintro _ w ⟨bx, rfl, h⟩) | (refine p_cmp rfl rfl rfl rfl (fun hc => ?_) (fun hc => ?_) <;> simp only [cmpProp] at hc) | fail)
      exact x_ret' is_law29_MeterShares rfl ⟨rfl, h.nil⟩
    · obtain ⟨n, hn⟩ : ∃ n, n = shareV (sortI (waitsE l)) part of := ⟨_, rfl⟩
      repeat' (first | (refine gC F.law29_awake ?_; refine p_call rfl rfl (law29_awake_spec h) ?_; rintro _ w ⟨rfl, h⟩) | (refine gC F.meter_Share ?_; refine p_call rfl rfl (meter_Share_spec l part of (by omega) (fun w h => hA _ w h) h) ?_; rw [← hn]; rintro _ w (⟨hx, _⟩ | ⟨_, rfl, h⟩); exact absurd hok hx) | (refine gC F.ref29_May ?_; refine p_call rfl rfl (ref29_May_spec l (by omega) (fun w h => hA _ w h) h) ?_; rintro _ w ⟨(⟨rfl, hb⟩ | ⟨rfl, hb⟩), h⟩; rotate_left; exact absurd hm hb) | (refine gC F.ref29_Waits ?_; refine p_call rfl rfl (ref29_Waits_spec l (by omega) hm (fun w h => hA _ w h) h) ?_; intro u w h; obtain ⟨sa, sl, sc, rfl, hsl, _⟩ := ownS_slice h .here; rw [ints_length, Nat.mul_one] at hsl) | refine stP ?_ | (refine stC0_W29s ?_; rintro _ w ⟨rfl, h⟩) | (refine stC1_W29s ?_; rintro _ w ⟨bx, rfl, h⟩) | (refine p_cmp rfl rfl rfl rfl (fun hc => ?_) (fun hc => ?_) <;> simp only [cmpProp] at hc) | fail)
      generalize hse : sortI (waitsE l) = s at *
      obtain ⟨l1, l2⟩ := share_law hso (by omega) p1 p2 o1
      have hmid := share_mid (s := s) (by omega)
      obtain ⟨b1, b2, _, _⟩ := share_bnd (n := s.length) p1 p2 o1
      rw [← hn] at l1 l2
      have c1 := leN_bnd s n
      have c2 := ltN_bnd s n
      have b5 : of * (s.length : Int) ≤ 100000 := by
        have := Int.mul_le_mul o2 (show (s.length : Int) ≤ 100 by omega) (by omega) (by decide)
        omega
      have d1 : 0 ≤ (leN s n : Int) * of ∧ (leN s n : Int) * of ≤ 100 * 1000 := ⟨Int.mul_nonneg (by omega) (by omega), Int.mul_le_mul (by omega) o2 (by omega) (by decide)⟩
      have d2 : 0 ≤ (ltN s n : Int) * of ∧ (ltN s n : Int) * of ≤ 100 * 1000 := ⟨Int.mul_nonneg (by omega) (by omega), Int.mul_le_mul (by omega) o2 (by omega) (by decide)⟩
      rw [hsl] at l1 l2 b1 b2 b5 hmid c1 c2
      refine x_keep [0, 1, 2, 7, 8, 9, 10, 11, 12] rfl ?_
      refine x_loop_inv (fun lm le w => ∃ (k : Nat), lm = sl - k ∧ k ≤ sl ∧ le = [(0, .slice va vl vc), (1, .int .i64 part), (2, .int .i64 of), (7, .int .i64 n), (8, .int .i64 0), (9, .slice sa sl sc), (10, .int .i64 (leN (s.take k) n : Nat)), (11, .int .i64 (ltN (s.take k) n : Nat)), (12, .int .i64 k)] ∧ Sat S w (ownS T.int 1 (.slice sa sl sc) (ints .i64 s) :: G)) (sl) ⟨0, rfl, by omega, rfl, h⟩ ?_
      clear h
      rintro lm le w ⟨k, rfl, hi0, rfl, h⟩ ih
      by_cases hk : k < sl
      · obtain ⟨z, hz⟩ := has_elem (show k < s.length by omega)
        have hgz : s.getD k 0 = z := by rw [List.getD_eq_getElem?_getD, hz]; rfl
        obtain ⟨sb, rfl⟩ := ownS_addr (E := T.int) h .here (by omega)
        have e1 := leN_next hz n
        have e2 := ltN_next hz n
        have f1 := leN_bnd (s.take k) n
        have f2 := ltN_bnd (s.take k) n
        rw [List.length_take] at f1 f2
        by_cases hzn : z ≤ n
        · by_cases hzl : z < n
          · rw [if_pos hzn] at e1
            rw [if_pos hzl] at e2
            repeat' (first | (refine gL ?_; refine p_val rfl (g_ldI (i := k) (xs := s) rfl (ownS_rd h (by repeat first | exact .here | apply Has.there)) (by omega) (by omega)) ?_; rw [hgz]) | refine stP ?_ | (refine stC0_W29s ?_; rintro _ w ⟨rfl, h⟩) | (refine stC1_W29s ?_; rintro _ w ⟨bx, rfl, h⟩) | (refine p_cmp rfl rfl rfl rfl (fun hc => ?_) (fun hc => ?_) <;> simp only [cmpProp] at hc) | fail)
            exact x_keep [0, 1, 2, 7, 8, 9, 10, 11, 12] rfl (ih _ _ _ (by omega) ⟨k + 1, rfl, by omega, by rw [e1, e2]; rfl, h⟩)
          · rw [if_pos hzn] at e1
            rw [if_neg hzl] at e2
            repeat' (first | (refine gL ?_; refine p_val rfl (g_ldI (i := k) (xs := s) rfl (ownS_rd h (by repeat first | exact .here | apply Has.there)) (by omega) (by omega)) ?_; rw [hgz]) | refine stP ?_ | (refine stC0_W29s ?_; rintro _ w ⟨rfl, h⟩) | (refine stC1_W29s ?_; rintro _ w ⟨bx, rfl, h⟩) | (refine p_cmp rfl rfl rfl rfl (fun hc => ?_) (fun hc => ?_) <;> simp only [cmpProp] at hc) | fail)
            exact x_keep [0, 1, 2, 7, 8, 9, 10, 11, 12] rfl (ih _ _ _ (by omega) ⟨k + 1, rfl, by omega, by rw [e1, e2]; rfl, h⟩)
        · rw [if_neg hzn] at e1
          rw [if_neg (show ¬ z < n by omega)] at e2
          repeat' (first | (refine gL ?_; refine p_val rfl (g_ldI (i := k) (xs := s) rfl (ownS_rd h (by repeat first | exact .here | apply Has.there)) (by omega) (by omega)) ?_; rw [hgz]) | refine stP ?_ | (refine stC0_W29s ?_; rintro _ w ⟨rfl, h⟩) | (refine stC1_W29s ?_; rintro _ w ⟨bx, rfl, h⟩) | (refine p_cmp rfl rfl rfl rfl (fun hc => ?_) (fun hc => ?_) <;> simp only [cmpProp] at hc) | fail)
          exact x_keep [0, 1, 2, 7, 8, 9, 10, 11, 12] rfl (ih _ _ _ (by omega) ⟨k + 1, rfl, by omega, by rw [e1, e2]; rfl, h⟩)
      · obtain rfl : k = sl := by omega
        rw [List.take_of_length_le (by omega)]
        repeat' (first | (refine gC F.meter_Measure ?_; refine p_call rfl rfl (meter_Measure_spec l (by omega) (fun w h => hA _ w h) h) ?_; rw [hse]; unfold measC; rw [hsl]; rintro _ w (⟨hx, _⟩ | ⟨_, rfl, h⟩); exact absurd hm hx) | (refine gC F.meter_Share ?_; refine p_call rfl rfl (meter_Share_spec l 1 2 (by omega) (fun w h => hA _ w h) h) ?_; rw [hse, hmid]; rintro _ w (⟨hx, _⟩ | ⟨_, rfl, h⟩); exact absurd ⟨hm, by decide, by decide, by decide⟩ hx) | refine stP ?_ | (refine stC0_W29s ?_; rintro _ w ⟨rfl, h⟩) | (refine stC1_W29s ?_; rintro _ w ⟨bx, rfl, h⟩) | (refine p_cmp rfl rfl rfl rfl (fun hc => ?_) (fun hc => ?_) <;> simp only [cmpProp] at hc) | fail)
        all_goals first | exact x_ret' is_law29_MeterShares rfl ⟨rfl, h.nil⟩ | (exfalso; omega)
  · repeat' (first | (refine gC F.law29_awake ?_; refine p_call rfl rfl (law29_awake_spec h) ?_; rintro _ w ⟨rfl, h⟩) | (refine gC F.meter_Share ?_; refine p_call rfl rfl (meter_Share_spec l part of (by omega) (fun w h => hA _ w h) h) ?_; rintro _ w (⟨_, rfl, h⟩ | ⟨hx, _⟩); rotate_left; exact absurd hx hok) | (refine gC F.ref29_May ?_; refine p_call rfl rfl (ref29_May_spec l (by omega) (fun w h => hA _ w h) h) ?_; rintro _ w ⟨(⟨rfl, hb⟩ | ⟨rfl, hb⟩), h⟩) | refine stP ?_ | (refine stC0_W29s ?_; rintro _ w ⟨rfl, h⟩) | (refine stC1_W29s ?_; rintro _ w ⟨bx, rfl, h⟩) | (refine p_cmp rfl rfl rfl rfl (fun hc => ?_) (fun hc => ?_) <;> simp only [cmpProp] at hc) | fail)
    all_goals first | exact x_ret' is_law29_MeterShares rfl ⟨rfl, h.nil⟩ | (exfalso; exact hok ⟨by assumption, by omega⟩)
end
/-! ### what the laws are asked -/
abbrev evTy : Ty := .st (.pair (.st (.pair (.int .i64) (.pair .str (.pair .str (.pair (.int .u64) .unit))))) (.pair (.st (.pair (.int .i64) (.pair .str .unit))) (.pair (.int .i64) (.pair (.int .i64) .unit))))
theorem arg_ev {W : World} {cs : List Value} (h : Arg W evTy cs) : ∃ e : EvM, cs = evC e ∧ True := by
  obtain ⟨_, _, rfl, ⟨_, _, rfl, ⟨k, rfl, _⟩, _, _, rfl, ⟨key, rfl, _⟩, _, _, rfl, ⟨val, rfl, _⟩, _, _, rfl, ⟨n, rfl, _⟩, h1⟩, _, _, rfl, ⟨_, _, rfl, ⟨c, rfl, _⟩, _, _, rfl, ⟨o, rfl, _⟩, h2⟩, _, _, rfl, ⟨f, rfl, _⟩, _, _, rfl, ⟨t, rfl, _⟩, h3⟩ := h
  obtain rfl : _ = [] := h1
  obtain rfl : _ = [] := h2
  obtain rfl : _ = [] := h3
  exact ⟨⟨k, key, val, n, c, o, f, t⟩, rfl, trivial⟩
theorem args_ev {W : World} {a0 : Option Addr} {len0 cap0 : Nat} (w0 : Arg W (.sl evTy) [.slice a0 len0 cap0]) : ∃ l : List EvM, Old ⟨W.heap.size, W⟩ 8 (.slice a0 len0 cap0) (rows evC l) := by
  obtain ⟨a, len, cap, els, he, _, _, hr, hall⟩ := w0
  simp at he
  obtain ⟨rfl, rfl, rfl⟩ := he
  obtain ⟨l, rfl, _, _⟩ := list_of (f := evC) (p := fun _ => True) (fun c hc => arg_ev (hall c hc))
  exact ⟨l, fun G w h => hr.later h⟩
theorem MeterMeasures_law (a0 : Option Addr) (len0 cap0 : Nat) (W : World) (w0 : Arg W (.sl evTy) [.slice a0 len0 cap0]) :
    Ret Try.prog F.law29_MeterMeasures #[.slice a0 len0 cap0] W (fun v w' => v = .bool true ∧ Sat ⟨W.heap.size, W⟩ w' []) := by
  obtain ⟨l, hA⟩ := args_ev w0
  exact law29_MeterMeasures_spec l hA (Sat.begin W)
theorem MeterBetween_law (a0 : Option Addr) (len0 cap0 : Nat) (W : World) (w0 : Arg W (.sl evTy) [.slice a0 len0 cap0]) :
    Ret Try.prog F.law29_MeterBetween #[.slice a0 len0 cap0] W (fun v w' => v = .bool true ∧ Sat ⟨W.heap.size, W⟩ w' []) := by
  obtain ⟨l, hA⟩ := args_ev w0
  exact law29_MeterBetween_spec l hA (Sat.begin W)
theorem MeterShares_law (a0 : Option Addr) (len0 cap0 : Nat) (a1 a2 : Int) (W : World) (w0 : Arg W (.sl evTy) [.slice a0 len0 cap0]) (_w1 : (Lit.int .i64 a1).wf = true) (_w2 : (Lit.int .i64 a2).wf = true) :
    Ret Try.prog F.law29_MeterShares #[.slice a0 len0 cap0, .int .i64 a1, .int .i64 a2] W (fun v w' => v = .bool true ∧ Sat ⟨W.heap.size, W⟩ w' []) := by
  obtain ⟨l, hA⟩ := args_ev w0
  exact law29_MeterShares_spec l a1 a2 hA (Sat.begin W)
end Go.Proofs.Ytojopmkekimpjaa
