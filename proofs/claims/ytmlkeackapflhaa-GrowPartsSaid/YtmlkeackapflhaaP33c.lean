/- Layer 33 (grow): an index grown, how many spare buckets it takes, the address of a number. -/
import Derived.Test.YtmlkeackapflhaaHxS
import Derived.Test.YtmlkeackapflhaaL33d
namespace Go.Proofs.Ytmlkeackapflhaa
open Go Go.HX
attribute [local irreducible] Ret XRun XOps XDr XOne Does Gives
set_option maxRecDepth 4000
set_option maxHeartbeats 1000000
theorem stC0_P33c {goal next : Prop} (k : next) (hs : Hid next → goal := by (intro k; (first | (refine gC F.grow_may ?_; refine p_call rfl rfl (grow_may_spec _ ?_ ?_ ?_ ?_ (h.rf3)) ?_; iterate 4 (first | assumption | omega | (simp only []; omega) | decide)) | (refine gC F.grow_may ?_; refine p_call rfl rfl (grow_may_nil _ h) ?_) | (refine gS ?_; (first | refine p_do rfl (d_stwL rfl rfl rfl rfl rfl (h.pick (by repeat first | exact .here | apply Has.there)) (by first | (dsimp only [Value.cells]; done) | exact rfl)) ?_ | refine p_do rfl (d_stL rfl rfl rfl (h.pick (by repeat first | exact .here | apply Has.there)) (by first | exact of_decide_eq_true rfl | simp) (by first | (dsimp only [List.set]; done) | exact rfl)) ?_)) | fail); exact k.out)) : goal := hs ⟨k⟩
theorem stC1_P33c {goal next : Prop} (k : next) (hs : Hid next → goal := by (intro k; (first | (refine gC F.index_New ?_; refine p_call rfl rfl (index_New_spec _ _ h) ?_) | fail); exact k.out)) : goal := hs ⟨k⟩
theorem stC2_P33c {goal next : Prop} (k : next) (hs : Hid next → goal := by (intro k; (first | (refine gC F.grow_old ?_; refine p_call rfl rfl (grow_old_spec _ ?_ ?_ (h.rf2)) ?_; iterate 2 (first | assumption | omega | (simp only []; omega) | decide)) | fail); exact k.out)) : goal := hs ⟨k⟩
theorem stC3_P33c {goal next : Prop} (k : next) (hs : Hid next → goal := by (intro k; (first | (refine gC F.grow_put ?_; refine p_call rfl rfl (grow_put_spec _ _ ?_ ?_ ?_ ?_ _ ?_ ?_ (h.rf3)) ?_; iterate 6 (first | assumption | omega | (simp only []; omega) | decide)) | fail); exact k.out)) : goal := hs ⟨k⟩
theorem stC4_P33c {goal next : Prop} (k : next) (hs : Hid next → goal := by (intro k; (first | (refine gN ?_; refine p_do rfl (d_newL h (by first | (dsimp only [Value.cells]; done) | exact rfl)) ?_) | fail); exact k.out)) : goal := hs ⟨k⟩
theorem needX_le {x : IdxM} (hok : IdxOk x) : ∀ k : Nat, needX x k ≤ k * 4000
  | 0 => by simp [needX]
  | k + 1 => by
    have h1 := needX_le hok k
    have h2 := entries_le k hok
    have h3 := oldL_le (x.entries k)
    have h4 : (x.old k).length = (oldL (x.entries k)).length := rfl
    rw [needX]
    omega
theorem old_bnd {x : IdxM} {Cs : List (List Nat)} (h : Forest x Cs) {b : Nat} (hb : b < x.nb) : ((x.old b).Pairwise (fun u v => u.tag ≠ v.tag)) ∧ ∀ e ∈ x.old b, 1 ≤ e.addr ∧ e.addr ≤ 281474976710655 ∧ 0 ≤ e.tag ∧ e.tag ≤ 16383 := by
  obtain ⟨h1, h2⟩ := forest_entries h hb
  refine ⟨?_, fun e he => ?_⟩
  · unfold IdxM.old oldL
    refine List.Pairwise.filter _ ?_
    rw [List.pairwise_map]
    exact h1
  · obtain ⟨w, hw, rfl, hf⟩ := oldL_mem he
    obtain ⟨w0, w1, w2, w3⟩ := h2 w hw
    have hub := unpack_bounds w2
    unfold unpackE at w1 hf ⊢
    rw [if_neg w0] at w1 hf ⊢
    split at w1
    · cases w1
    · rename_i hn
      rw [if_neg hn] at hf ⊢
      have hok : entOk (entOf w) := Classical.byContradiction (fun hx => hn (.inr hx))
      obtain ⟨k1, k2, k3⟩ := hok
      have ha : (entOf w).addr ≠ 0 := fun e => by rw [k3.2 e] at hf; cases hf
      have ha0 : 0 ≤ (entOf w).addr ∧ 0 ≤ (entOf w).tag := by unfold entOf; simp only; omega
      exact ⟨(by omega : 1 ≤ (entOf w).addr), k1, ha0.2, k2⟩
section
variable {S : SP} {w : World} {G : List HProp}

set_option maxHeartbeats 8000000 in
theorem grow_Twice_spec {b c d : Nat} {x : IdxM} {Cs : List (List Nat)} {s : Nat} (hF : Forest x Cs) (h5 : x.nb ≤ 512) (hs : needX x x.nb ≤ s) (hs6 : s ≤ 64) (h : Sat S w (pt b (.cells (idxC (x) c d) T.index_Index (0, 0)) :: isRow c (x).row :: isRow d (x).tk :: G)) :
    Ret Try.prog F.grow_Twice #[.pointer (some ⟨b, 0, none⟩), .int .i64 x.nb, .int .i64 s] w (fun v w' => ∃ b2 c2 d2 y, v = .tuple #[.pointer (some ⟨b2, 0, none⟩), .int .i64 0] ∧ Filled (2 * x.nb) s (puts x x.nb) y ∧ Sat S w' (pt b2 (.cells (idxC y c2 d2) T.index_Index (0, 0)) :: isRow c2 y.row :: isRow d2 y.tk :: pt b (.cells (idxC (x) c d) T.index_Index (0, 0)) :: isRow c (x).row :: isRow d (x).tk :: G)) := by
  have hok := hF.ok.ok
  have hsm := idx_small hok
  have hmay := hok.may
  have hm2 := mayN_twice hmay h5
  have e2 : ((2 * x.nb : Nat) : Int) = 2 * (x.nb : Int) := by omega
  rw [e2] at hm2
  refine ret_of is_grow_Twice rfl ?_
  repeat' (first | (refine gC F.grow_may ?_; refine p_call rfl rfl (grow_may_spec _ hok hmay (by omega) (by omega) (h.rf3)) ?_; rintro _ w ⟨rfl, h⟩) | (refine gC F.index_New ?_; refine p_call rfl rfl (index_New_spec (2 * (x.nb : Int)) s h) ?_; rintro _ w (⟨hx, _⟩ | ⟨_, b2, c2, d2, rfl, h⟩); exact absurd ⟨hm2, by omega, by omega⟩ hx) | refine stP ?_ | (refine stC0_P33c ?_; rintro _ w ⟨rfl, h⟩) | (refine stC1_P33c ?_; rintro _ w (⟨hq1, rfl, h⟩ | ⟨⟨hq2, hq3, hq4⟩, ⟨b, c, d, rfl, h⟩⟩)) | (refine stC2_P33c ?_; rintro v w h) | (refine stC3_P33c ?_; rintro _ w ⟨rfl, ⟨z, hq1, h⟩⟩) | (refine stC4_P33c ?_; rintro _ w ⟨bx, rfl, h⟩) | (refine p_cmp rfl rfl rfl rfl (fun hc => ?_) (fun hc => ?_) <;> simp only [cmpProp] at hc) | fail)
  have h0 := filled_zero (n := 2 * x.nb) (s := s) (by rw [e2]; exact hm2) hs6
  have hpp : puts x 0 = [] := rfl
  rw [← hpp] at h0
  rw [← e2] at h
  refine x_keep [0, 1, 9, 34, 35] rfl ?_
  refine x_loop_inv (fun lm le w => ∃ (i : Nat), ∃ (y : IdxM), lm = x.nb - i ∧ i ≤ x.nb ∧ Filled (2 * x.nb) s (puts x i) y ∧ le = [(0, .pointer (some ⟨b, 0, none⟩)), (1, .int .i64 x.nb), (9, .pointer (some ⟨b2, 0, none⟩)), (34, .int .i64 x.nb), (35, .int .i64 i)] ∧ Sat S w (pt b2 (.cells (idxC y c2 d2) T.index_Index (0, 0)) :: isRow c2 y.row :: isRow d2 y.tk :: pt b (.cells (idxC (x) c d) T.index_Index (0, 0)) :: isRow c (x).row :: isRow d (x).tk :: G)) (x.nb) ⟨0, _, rfl, by omega, h0, rfl, h⟩ ?_
  clear h
  rintro lm le w ⟨i, y, rfl, hi0, hi1, rfl, h⟩ ih
  by_cases hi : i < x.nb
  · obtain ⟨hop, hob⟩ := old_bnd hF hi
    obtain ⟨R0, hR0⟩ := puts_prefix x (show i + 1 ≤ x.nb by omega)
    rw [puts_succ] at hR0
    have hol : (x.old i).length ≤ 8000 := Nat.le_trans (oldL_le _) (entries_le i hok)
    repeat' (first | refine stPs ?_ | (refine stC0_P33c ?_; rintro _ w ⟨rfl, h⟩) | (refine stC1_P33c ?_; rintro _ w (⟨hq1, rfl, h⟩ | ⟨⟨hq2, hq3, hq4⟩, ⟨b, c, d, rfl, h⟩⟩)) | (refine stC2_P33c ?_; rintro v w h) | (refine stC3_P33c ?_; rintro _ w ⟨rfl, ⟨z, hq1, h⟩⟩) | (refine stC4_P33c ?_; rintro _ w ⟨bx, rfl, h⟩) | (refine p_cmp rfl rfl rfl rfl (fun hc => ?_) (fun hc => ?_) <;> simp only [cmpProp] at hc) | fail)
    refine p_call rfl rfl (grow_old_spec i hF hi (h.rf2)) ?_
    rintro v w h
    obtain ⟨va, vl, vc, rfl, hvl, _⟩ := ownS_slice h .here
    rw [rows_length entC_len] at hvl
    have hvl : (x.old i).length = vl := by omega
    repeat' (first | refine stPs ?_ | (refine stC0_P33c ?_; rintro _ w ⟨rfl, h⟩) | (refine stC1_P33c ?_; rintro _ w (⟨hq1, rfl, h⟩ | ⟨⟨hq2, hq3, hq4⟩, ⟨b, c, d, rfl, h⟩⟩)) | (refine stC2_P33c ?_; rintro v w h) | (refine stC3_P33c ?_; rintro _ w ⟨rfl, ⟨z, hq1, h⟩⟩) | (refine stC4_P33c ?_; rintro _ w ⟨bx, rfl, h⟩) | (refine p_cmp rfl rfl rfl rfl (fun hc => ?_) (fun hc => ?_) <;> simp only [cmpProp] at hc) | fail)
    refine p_val rfl (g_bla rfl rfl) ?_
    repeat' (first | refine stPs ?_ | (refine stC0_P33c ?_; rintro _ w ⟨rfl, h⟩) | (refine stC1_P33c ?_; rintro _ w (⟨hq1, rfl, h⟩ | ⟨⟨hq2, hq3, hq4⟩, ⟨b, c, d, rfl, h⟩⟩)) | (refine stC2_P33c ?_; rintro v w h) | (refine stC3_P33c ?_; rintro _ w ⟨rfl, ⟨z, hq1, h⟩⟩) | (refine stC4_P33c ?_; rintro _ w ⟨bx, rfl, h⟩) | (refine p_cmp rfl rfl rfl rfl (fun hc => ?_) (fun hc => ?_) <;> simp only [cmpProp] at hc) | fail)
    have hd0 : Filled (2 * x.nb) s (puts x i ++ toB i ((x.old i).take 0)) y := by simpa [toB] using hi1
    refine x_keep [0, 1, 9, 12, 34, 35, 45, 46] rfl ?_
    refine x_loop_inv (fun lm le w => ∃ (hf : Nat), ∃ (D : Puts), ∃ (y : IdxM), lm = 2 - hf ∧ hf ≤ 2 ∧ D = (puts x i ++ (if hf = 0 then [] else toB i (x.old i)) ++ (if hf ≤ 1 then [] else toB (i + x.nb) (x.old i))) ∧ Filled (2 * x.nb) s D y ∧ le = [(0, .pointer (some ⟨b, 0, none⟩)), (1, .int .i64 x.nb), (9, .pointer (some ⟨b2, 0, none⟩)), (12, .slice va vl vc), (34, .int .i64 x.nb), (35, .int .i64 i), (45, .agg #[.int .i64 i, .int .i64 ((i : Int) + x.nb)]), (46, .int .i64 hf)] ∧ Sat S w (ownS T.api_Entry 3 (.slice va vl vc) (rows entC (x.old i)) :: pt b2 (.cells (idxC y c2 d2) T.index_Index (0, 0)) :: isRow c2 y.row :: isRow d2 y.tk :: pt b (.cells (idxC (x) c d) T.index_Index (0, 0)) :: isRow c (x).row :: isRow d (x).tk :: G)) (2) ⟨0, puts x i, y, rfl, by omega, (by simp), hi1, rfl, h.pm7⟩ ?_
    clear h
    rintro lm le w ⟨hf, D, y, rfl, hi0, hi1, hi2, rfl, h⟩ ih2
    by_cases hh : hf < 2
    · obtain ⟨to, hto1, hto2, hton, hnew, hnext⟩ : ∃ to : Nat, (#[Value.int .i64 i, .int .i64 ((i : Int) + x.nb)])[(hf : Int).toNat * 1]? = some (.int .i64 to) ∧ to < 2000 ∧ to < 2 * x.nb ∧ (∀ p ∈ D, p.1 ≠ to) ∧ (D ++ toB to (x.old i) = puts x i ++ (if hf + 1 = 0 then [] else toB i (x.old i)) ++ (if hf + 1 ≤ 1 then [] else toB (i + x.nb) (x.old i)) ∧ ∃ R, puts x x.nb = D ++ toB to (x.old i) ++ R) := by
        by_cases h0 : hf = 0
        · subst h0
          rw [if_pos rfl, if_pos (by omega), List.append_nil, List.append_nil] at hi1
          subst hi1
          refine ⟨i, rfl, by omega, by omega, fun p hp => ?_, by simp, _, by rw [hR0, List.append_assoc]⟩
          obtain ⟨b', hb', h1, _⟩ := mem_puts.1 hp
          omega
        · obtain rfl : hf = 1 := by omega
          rw [if_neg (by omega), if_pos (by omega), List.append_nil] at hi1
          subst hi1
          refine ⟨i + x.nb, by simp, by omega, by omega, fun p hp => ?_, by simp, _, hR0⟩
          rcases List.mem_append.1 hp with hp | hp
          · obtain ⟨b', hb', h1, _⟩ := mem_puts.1 hp
            omega
          · have := (mem_toB.1 hp).1
            omega
      repeat' (first | (refine p_val rfl (g_ixa rfl rfl (by omega) (by omega) hto1) ?_) | refine stP ?_ | (refine stC0_P33c ?_; rintro _ w ⟨rfl, h⟩) | (refine stC1_P33c ?_; rintro _ w (⟨hq1, rfl, h⟩ | ⟨⟨hq2, hq3, hq4⟩, ⟨b, c, d, rfl, h⟩⟩)) | (refine stC2_P33c ?_; rintro v w h) | (refine stC3_P33c ?_; rintro _ w ⟨rfl, ⟨z, hq1, h⟩⟩) | (refine stC4_P33c ?_; rintro _ w ⟨bx, rfl, h⟩) | (refine p_cmp rfl rfl rfl rfl (fun hc => ?_) (fun hc => ?_) <;> simp only [cmpProp] at hc) | fail)
      refine x_keep [0, 1, 9, 12, 14, 34, 35, 45, 46, 49, 50, 51] rfl ?_
      refine x_loop_inv (fun lm le w => ∃ (k : Nat), ∃ (y : IdxM), lm = vl - k ∧ k ≤ vl ∧ Filled (2 * x.nb) s (D ++ toB to ((x.old i).take k)) y ∧ le = [(0, .pointer (some ⟨b, 0, none⟩)), (1, .int .i64 x.nb), (9, .pointer (some ⟨b2, 0, none⟩)), (12, .slice va vl vc), (14, .int .i64 to), (34, .int .i64 x.nb), (35, .int .i64 i), (45, .agg #[.int .i64 i, .int .i64 ((i : Int) + x.nb)]), (46, .int .i64 hf), (49, .slice va vl vc), (50, .int .i64 vl), (51, .int .i64 k)] ∧ Sat S w (ownS T.api_Entry 3 (.slice va vl vc) (rows entC (x.old i)) :: pt b2 (.cells (idxC y c2 d2) T.index_Index (0, 0)) :: isRow c2 y.row :: isRow d2 y.tk :: pt b (.cells (idxC (x) c d) T.index_Index (0, 0)) :: isRow c (x).row :: isRow d (x).tk :: G)) (vl) ⟨0, y, rfl, by omega, (by simpa [toB] using hi2), rfl, h⟩ ?_
      clear h
      rintro lm le w ⟨k, y, rfl, hi0, hi1, rfl, h⟩ ih3
      by_cases hk : k < vl
      · obtain ⟨e, he⟩ := has_elem (show k < (x.old i).length by omega)
        obtain ⟨e1, e2', e3, e4⟩ := hob e (List.mem_of_getElem? he)
        obtain ⟨t1, R1, t2⟩ := toB_take (b := to) he
        obtain ⟨R, hR⟩ := hnext.2
        obtain ⟨st, hst⟩ := filled_put hi1 (b := to) (e := e) hton e1 e2' e3 e4 (fun p hp hx => by
          rcases List.mem_append.1 hp with hp | hp
          · exact hnew p hp hx.1
          · obtain ⟨j, hj⟩ := List.getElem?_of_mem (mem_toB.1 hp).2
            obtain ⟨hjl, hj⟩ := List.getElem?_eq_some_iff.1 hj
            rw [List.getElem_take] at hj
            rw [List.length_take] at hjl
            rw [List.pairwise_iff_getElem] at hop
            obtain ⟨hkl, he⟩ := List.getElem?_eq_some_iff.1 he
            have := hop j k (by omega) hkl (by omega)
            rw [hj, he] at this
            exact this hx.2) (by
          have := needD_mono (2 * x.nb) (D ++ toB to ((x.old i).take k) ++ [(to, e)]) (R1 ++ R)
          rw [List.append_assoc D, t1, List.append_assoc, ← List.append_assoc (toB to _), ← t2, ← List.append_assoc, ← hR, needD_puts] at this
          rw [List.append_assoc D, t1]
          omega)
        rw [List.append_assoc D, t1] at hst
        obtain ⟨pa, rfl⟩ := ownS_addr (E := T.api_Entry) h .here (by omega)
        repeat' (first | (refine gL ?_; refine p_val rfl (g_ldE entC_len rfl (ownS_rd h .here) he (by omega)) ?_) | refine stP ?_ | (refine stC0_P33c ?_; rintro _ w ⟨rfl, h⟩) | (refine stC1_P33c ?_; rintro _ w (⟨hq1, rfl, h⟩ | ⟨⟨hq2, hq3, hq4⟩, ⟨b, c, d, rfl, h⟩⟩)) | (refine stC2_P33c ?_; rintro v w h) | (refine stC3_P33c ?_; rintro _ w ⟨rfl, ⟨z, hq1, h⟩⟩) | (refine stC4_P33c ?_; rintro _ w ⟨bx, rfl, h⟩) | (refine p_cmp rfl rfl rfl rfl (fun hc => ?_) (fun hc => ?_) <;> simp only [cmpProp] at hc) | fail)
        refine p_call rfl rfl (grow_put_spec to e (by omega) e3 e4 hto2 hst e1 e2' (h.rf3)) ?_
        rintro _ w ⟨rfl, z, hz, h⟩
        repeat' (first | refine stPs ?_ | (refine stC0_P33c ?_; rintro _ w ⟨rfl, h⟩) | (refine stC1_P33c ?_; rintro _ w (⟨hq1, rfl, h⟩ | ⟨⟨hq2, hq3, hq4⟩, ⟨b, c, d, rfl, h⟩⟩)) | (refine stC2_P33c ?_; rintro v w h) | (refine stC3_P33c ?_; rintro _ w ⟨rfl, ⟨z, hq1, h⟩⟩) | (refine stC4_P33c ?_; rintro _ w ⟨bx, rfl, h⟩) | (refine p_cmp rfl rfl rfl rfl (fun hc => ?_) (fun hc => ?_) <;> simp only [cmpProp] at hc) | fail)
        exact x_keep [0, 1, 9, 12, 14, 34, 35, 45, 46, 49, 50, 51] rfl (ih3 _ _ _ (by omega) ⟨k + 1, z, rfl, by omega, hz, rfl, h.pm7⟩)
      · obtain rfl : k = vl := by omega
        rw [← hvl, List.take_length, hnext.1] at hi1
        repeat' (first | refine stPs ?_ | (refine stC0_P33c ?_; rintro _ w ⟨rfl, h⟩) | (refine stC1_P33c ?_; rintro _ w (⟨hq1, rfl, h⟩ | ⟨⟨hq2, hq3, hq4⟩, ⟨b, c, d, rfl, h⟩⟩)) | (refine stC2_P33c ?_; rintro v w h) | (refine stC3_P33c ?_; rintro _ w ⟨rfl, ⟨z, hq1, h⟩⟩) | (refine stC4_P33c ?_; rintro _ w ⟨bx, rfl, h⟩) | (refine p_cmp rfl rfl rfl rfl (fun hc => ?_) (fun hc => ?_) <;> simp only [cmpProp] at hc) | fail)
        exact x_keep [0, 1, 9, 12, 34, 35, 45, 46] rfl (ih2 _ _ _ (by omega) ⟨hf + 1, _, y, rfl, by omega, rfl, hi1, rfl, h.pm7⟩)
    · obtain rfl : hf = 2 := by omega
      rw [if_neg (by omega), if_neg (by omega), ← puts_succ] at hi1
      rw [hi1] at hi2
      repeat' (first | refine stPs ?_ | (refine stC0_P33c ?_; rintro _ w ⟨rfl, h⟩) | (refine stC1_P33c ?_; rintro _ w (⟨hq1, rfl, h⟩ | ⟨⟨hq2, hq3, hq4⟩, ⟨b, c, d, rfl, h⟩⟩)) | (refine stC2_P33c ?_; rintro v w h) | (refine stC3_P33c ?_; rintro _ w ⟨rfl, ⟨z, hq1, h⟩⟩) | (refine stC4_P33c ?_; rintro _ w ⟨bx, rfl, h⟩) | (refine p_cmp rfl rfl rfl rfl (fun hc => ?_) (fun hc => ?_) <;> simp only [cmpProp] at hc) | fail)
      exact x_keep [0, 1, 9, 34, 35] rfl (ih _ _ _ (by omega) ⟨i + 1, y, rfl, by omega, hi2, rfl, h.pm6⟩)
  · obtain rfl : i = x.nb := by omega
    repeat' (first | refine stPs ?_ | (refine stC0_P33c ?_; rintro _ w ⟨rfl, h⟩) | (refine stC1_P33c ?_; rintro _ w (⟨hq1, rfl, h⟩ | ⟨⟨hq2, hq3, hq4⟩, ⟨b, c, d, rfl, h⟩⟩)) | (refine stC2_P33c ?_; rintro v w h) | (refine stC3_P33c ?_; rintro _ w ⟨rfl, ⟨z, hq1, h⟩⟩) | (refine stC4_P33c ?_; rintro _ w ⟨bx, rfl, h⟩) | (refine p_cmp rfl rfl rfl rfl (fun hc => ?_) (fun hc => ?_) <;> simp only [cmpProp] at hc) | fail)
    exact x_ret' is_grow_Twice rfl ⟨b2, c2, d2, y, rfl, hi1, h⟩
end
end Go.Proofs.Ytmlkeackapflhaa
