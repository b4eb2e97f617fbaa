/- Layer 33 (grow): what is carried over, and what is put. -/
import Derived.Test.YtmlkeackapflhaaHxS
import Derived.Test.YtmlkeackapflhaaP33
import Derived.Test.YtmlkeackapflhaaL33c
import Derived.Test.YtmlkeackapflhaaN17
namespace Go.Proofs.Ytmlkeackapflhaa
open Go Go.HX
attribute [local irreducible] Ret XRun XOps XDr XOne Does Gives
set_option maxRecDepth 4000
set_option maxHeartbeats 1000000
theorem stC0_P33b {goal next : Prop} (k : next) (hs : Hid next → goal := by (intro k; (first | (refine gC F.grow_words ?_; refine p_call rfl rfl (grow_words_spec _ ?_ ?_ (h.rf2)) ?_; iterate 2 (first | assumption | omega | (simp only []; omega) | decide)) | fail); exact k.out)) : goal := hs ⟨k⟩
theorem stC1_P33b {goal next : Prop} (k : next) (hs : Hid next → goal := by (intro k; (first | (refine gC F.entry_Unpack ?_; refine p_call rfl rfl (entry_Unpack_spec _ ?_ ?_ h) ?_; iterate 2 (first | assumption | omega | (simp only []; omega) | decide)) | (refine gS ?_; (first | refine p_do rfl (d_stwL rfl rfl rfl rfl rfl (h.pick (by repeat first | exact .here | apply Has.there)) (by first | (dsimp only [Value.cells]; done) | exact rfl)) ?_ | refine p_do rfl (d_stL rfl rfl rfl (h.pick (by repeat first | exact .here | apply Has.there)) (by first | exact of_decide_eq_true rfl | simp) (by first | (dsimp only [List.set]; done) | exact rfl)) ?_)) | (refine gC F.grow_number ?_; refine p_call rfl rfl (grow_number_spec _ _ ?_ ?_ ?_ h) ?_; iterate 3 (first | assumption | omega | (simp only []; omega) | decide)) | (refine gC F.index_Index_Look ?_; refine p_call rfl rfl (index_Index_Look_nil _ h) ?_) | (refine gC F.index_Index_Look ?_; refine p_call rfl rfl (index_Index_Look_spec _ ?_ ?_ ?_ (h.rf2)) ?_; iterate 3 (first | assumption | omega | (simp only []; omega) | decide)) | (refine gC F.index_Index_Turn ?_; refine p_call rfl rfl (index_Index_Turn_nil _ _ _ h) ?_) | (refine gC F.index_Index_Turn ?_; refine p_call rfl rfl (index_Index_Turn_spec _ _ _ ?_ ?_ ?_ (h.rf3)) ?_; iterate 3 (first | assumption | omega | (simp only []; omega) | decide)) | (refine gC F.index_Index_Claim ?_; refine p_call rfl rfl (index_Index_Claim_nil _ _ h) ?_) | (refine gC F.index_Index_Claim ?_; refine p_call rfl rfl (index_Index_Claim_spec _ _ ?_ ?_ (h.rf3)) ?_; iterate 2 (first | assumption | omega | (simp only []; omega) | decide)) | (refine gC F.index_Index_Spare ?_; refine p_call rfl rfl (index_Index_Spare_nil h) ?_) | (refine gC F.index_Index_Spare ?_; refine p_call rfl rfl (index_Index_Spare_spec ?_ (h.rf3)) ?_; iterate 1 (first | assumption | omega | (simp only []; omega) | decide)) | (refine gC F.index_Index_Link ?_; refine p_call rfl rfl (index_Index_Link_nil _ _ h) ?_) | (refine gC F.index_Index_Link ?_; refine p_call rfl rfl (index_Index_Link_spec _ _ ?_ (h.rf3)) ?_; iterate 1 (first | assumption | omega | (simp only []; omega) | decide)) | fail); exact k.out)) : goal := hs ⟨k⟩
theorem stC2_P33b {goal next : Prop} (k : next) (hs : Hid next → goal := by (intro k; (first | (refine gN ?_; refine p_do rfl (d_newL h (by first | (dsimp only [Value.cells]; done) | exact rfl)) ?_) | (refine gBx ?_; refine p_do rfl (d_boxL rfl h (by first | (dsimp only [Value.cells]; done) | exact rfl)) ?_) | fail); exact k.out)) : goal := hs ⟨k⟩
/-- Entries that point somewhere. -/
def oldL (l : List Int) : List EntM := (l.map (fun w => (unpackE w).1)).filter (fun e => !e.fresh)
def IdxM.old (x : IdxM) (b : Nat) : List EntM := oldL (x.entries b)
theorem entC_len (e : EntM) : (entC e).length = 3 := rfl
theorem entC_one (e : EntM) : ∀ u ∈ entC e, u.oneCell' = true := by
  intro u hu
  simp [entC] at hu
  rcases hu with rfl | rfl | rfl <;> rfl
theorem kv_none {l : List EntM} {t : Int} (h : ∀ e ∈ l, e.tag ≠ t) : kvAt t (l.map (fun e => (e.tag, Value.bool true))) = none := by
  unfold kvAt
  rw [List.findIdx?_eq_none_iff]
  intro p hp
  obtain ⟨e, he, rfl⟩ := List.mem_map.1 hp
  exact decide_eq_false (h e he)
theorem oldL_snoc (l : List Int) (w : Int) : oldL (l ++ [w]) = oldL l ++ if (unpackE w).1.fresh = true then [] else [(unpackE w).1] := by
  unfold oldL
  rw [List.map_append, List.filter_append]
  simp only [List.map_cons, List.map_nil]
  cases hf : (unpackE w).1.fresh <;> simp [hf]
theorem oldL_le (l : List Int) : (oldL l).length ≤ l.length := by
  unfold oldL
  exact Nat.le_trans (List.length_filter_le _ _) (by rw [List.length_map]; exact Nat.le_refl _)
theorem oldL_mem {l : List Int} {e : EntM} (h : e ∈ oldL l) : ∃ w ∈ l, e = (unpackE w).1 ∧ e.fresh = false := by
  unfold oldL at h
  obtain ⟨h1, h2⟩ := List.mem_filter.1 h
  obtain ⟨w, hw, rfl⟩ := List.mem_map.1 h1
  exact ⟨w, hw, rfl, by simpa using h2⟩
section
variable {S : SP} {w : World} {G : List HProp}

set_option maxHeartbeats 8000000 in
theorem grow_old_spec {b c d : Nat} {x : IdxM} {Cs : List (List Nat)} (i : Nat) (hF : Forest x Cs) (hb : i < x.nb) (h : Sat S w (pt b (.cells (idxC x c d) T.index_Index (0, 0)) :: isRow c x.row :: G)) :
    Ret Try.prog F.grow_old #[.pointer (some ⟨b, 0, none⟩), .int .i64 i] w (fun v w' => Sat S w' (ownS T.api_Entry 3 v (rows entC (x.old i)) :: pt b (.cells (idxC x c d) T.index_Index (0, 0)) :: isRow c x.row :: G)) := by
  have hok := hF.ok.ok
  have hs := idx_small hok
  have hel := entries_le i hok
  obtain ⟨hpw, hen⟩ := forest_entries hF hb
  refine ret_of is_grow_old rfl ?_
  repeat' (first | refine stPs ?_ | (refine stC0_P33b ?_; rintro v w h) | (refine stC1_P33b ?_; rintro _ w ⟨rfl, h⟩) | (refine stC2_P33b ?_; rintro _ w ⟨bx, rfl, h⟩) | (refine p_cmp rfl rfl rfl rfl (fun hc => ?_) (fun hc => ?_) <;> simp only [cmpProp] at hc) | fail)
  refine p_do rfl (d_mkm (fun n : Int => .int .u64 n) h) ?_
  rintro _ w ⟨bm, rfl, h⟩
  repeat' (first | refine stPs ?_ | (refine stC0_P33b ?_; rintro v w h) | (refine stC1_P33b ?_; rintro _ w ⟨rfl, h⟩) | (refine stC2_P33b ?_; rintro _ w ⟨bx, rfl, h⟩) | (refine p_cmp rfl rfl rfl rfl (fun hc => ?_) (fun hc => ?_) <;> simp only [cmpProp] at hc) | fail)
  obtain ⟨va, vl, vc, rfl, hvl, _⟩ := ownS_slice h .here
  rw [ints_length, Nat.mul_one] at hvl
  repeat' (first | refine stPs ?_ | (refine stC0_P33b ?_; rintro v w h) | (refine stC1_P33b ?_; rintro _ w ⟨rfl, h⟩) | (refine stC2_P33b ?_; rintro _ w ⟨bx, rfl, h⟩) | (refine p_cmp rfl rfl rfl rfl (fun hc => ?_) (fun hc => ?_) <;> simp only [cmpProp] at hc) | fail)
  have h := ownS_none (E := T.api_Entry) (n := 3) h
  refine x_keep [5, 6, 14, 15, 16] rfl ?_
  refine x_loop_inv (fun lm le w => ∃ (k : Nat), ∃ (u : Value), lm = vl - k ∧ k ≤ vl ∧ le = [(5, .map (some bm)), (6, u), (14, .slice va vl vc), (15, .int .i64 vl), (16, .int .i64 k)] ∧ Sat S w (ownS T.api_Entry 3 u (rows entC (oldL ((x.entries i).take k))) :: isMap (fun n : Int => Value.int .u64 n) bm ((oldL ((x.entries i).take k)).map (fun e => (e.tag, Value.bool true))) :: ownS T.uint64 1 (.slice va vl vc) (ints .u64 (x.entries i)) :: pt b (.cells (idxC x c d) T.index_Index (0, 0)) :: isRow c x.row :: G)) (vl) ⟨0, _, rfl, by omega, rfl, h.pm5⟩ ?_
  clear h
  rintro lm le w ⟨k, u, rfl, hi0, rfl, h⟩ ih
  by_cases hk : k < vl
  · obtain ⟨z, hz⟩ := has_elem (show k < (x.entries i).length by omega)
    obtain ⟨_, he0, hz0, hz1⟩ := hen z (List.mem_of_getElem? hz)
    have hgz : (x.entries i).getD k 0 = z := by rw [List.getD_eq_getElem?_getD, hz]; rfl
    obtain ⟨pa, rfl⟩ := ownS_addr (E := T.uint64) h (.there (.there .here)) (by omega)
    have hsn := oldL_snoc ((x.entries i).take k) z
    rw [← take_next hz] at hsn
    have hlt := oldL_le ((x.entries i).take k)
    rw [List.length_take] at hlt
    have hnt : ∀ e ∈ oldL ((x.entries i).take k), e.tag ≠ (unpackE z).1.tag := fun e he => by
      obtain ⟨y, hy, rfl, _⟩ := oldL_mem he
      obtain ⟨j, hj⟩ := List.getElem?_of_mem hy
      obtain ⟨hjl, hj⟩ := List.getElem?_eq_some_iff.1 hj
      rw [List.getElem_take] at hj
      rw [List.length_take] at hjl
      rw [List.pairwise_iff_getElem] at hpw
      obtain ⟨hkl, hz⟩ := List.getElem?_eq_some_iff.1 hz
      have := hpw j k (by omega) hkl (by omega)
      rw [hj, hz] at this
      exact this
    obtain ⟨⟨⟨ea, et, ef⟩, ez⟩, hu⟩ : ∃ q, unpackE z = q := ⟨_, rfl⟩
    rw [hu] at he0 hsn hnt
    simp only at he0 hnt
    subst he0
    have hat := kv_none hnt
    cases ef
    · rw [if_neg (by simp)] at hsn
      repeat' (first | (refine gL ?_; refine p_val rfl (g_ldI (i := k) rfl (ownS_rd h (.there (.there .here))) (by omega) (by omega)) ?_; rw [hgz]) | (refine gC F.entry_Unpack ?_; refine p_call rfl rfl (entry_Unpack_spec _ hz0 hz1 h) ?_; rw [hu]; rintro _ w ⟨rfl, h⟩) | refine stP ?_ | (refine stC0_P33b ?_; rintro v w h) | (refine stC1_P33b ?_; rintro _ w ⟨rfl, h⟩) | (refine stC2_P33b ?_; rintro _ w ⟨bx, rfl, h⟩) | (refine p_cmp rfl rfl rfl rfl (fun hc => ?_) (fun hc => ?_) <;> simp only [cmpProp] at hc) | fail)
      refine p_val rfl (g_lkp (v := et) (keyOK_int rfl) rfl rfl (h.pick (by repeat first | exact .here | apply Has.there))) ?_
      rw [show kvGet et ((oldL ((x.entries i).take k)).map (fun e => (e.tag, Value.bool true))) = none by unfold kvGet; rw [hat]; rfl]
      repeat' (first | refine stPs ?_ | (refine stC0_P33b ?_; rintro v w h) | (refine stC1_P33b ?_; rintro _ w ⟨rfl, h⟩) | (refine stC2_P33b ?_; rintro _ w ⟨bx, rfl, h⟩) | (refine p_cmp rfl rfl rfl rfl (fun hc => ?_) (fun hc => ?_) <;> simp only [cmpProp] at hc) | fail)
      refine p_do rfl (d_mup (v := et) (keyOK_int rfl) rfl rfl rfl (h.pick (by repeat first | exact .here | apply Has.there))) ?_
      rintro _ w ⟨rfl, h⟩
      rw [show kvPut et (.bool true) ((oldL ((x.entries i).take k)).map (fun e => (e.tag, Value.bool true))) = (oldL ((x.entries i).take (k + 1))).map (fun e => (e.tag, Value.bool true)) by unfold kvPut; rw [hat, hsn, List.map_append]; rfl] at h
      repeat' (first | refine stPs ?_ | (refine stC0_P33b ?_; rintro v w h) | (refine stC1_P33b ?_; rintro _ w ⟨rfl, h⟩) | (refine stC2_P33b ?_; rintro _ w ⟨bx, rfl, h⟩) | (refine p_cmp rfl rfl rfl rfl (fun hc => ?_) (fun hc => ?_) <;> simp only [cmpProp] at hc) | fail)
      refine p_lit (entC ⟨ea, et, false⟩) rfl rfl rfl rfl rfl rfl h (fun v w h => ?_)
      repeat' (first | refine stPs ?_ | (refine stC0_P33b ?_; rintro v w h) | (refine stC1_P33b ?_; rintro _ w ⟨rfl, h⟩) | (refine stC2_P33b ?_; rintro _ w ⟨bx, rfl, h⟩) | (refine p_cmp rfl rfl rfl rfl (fun hc => ?_) (fun hc => ?_) <;> simp only [cmpProp] at hc) | fail)
      refine p_app rfl rfl rfl rfl (by decide) (h.pick (by repeat first | exact .here | apply Has.there)) (ownS_rd h .here) (entC_one _) (by rw [rows_length entC_len]; simp [entC]; omega) (by rw [rows_length entC_len]; simp [entC]; omega) (fun v3 w h => ?_)
      have e4 : rows entC (oldL ((x.entries i).take k)) ++ entC ⟨ea, et, false⟩ = rows entC (oldL ((x.entries i).take (k + 1))) := by rw [hsn, rows_append, rows_one]
      rw [e4] at h
      repeat' (first | refine stPs ?_ | (refine stC0_P33b ?_; rintro v w h) | (refine stC1_P33b ?_; rintro _ w ⟨rfl, h⟩) | (refine stC2_P33b ?_; rintro _ w ⟨bx, rfl, h⟩) | (refine p_cmp rfl rfl rfl rfl (fun hc => ?_) (fun hc => ?_) <;> simp only [cmpProp] at hc) | fail)
      exact x_keep [5, 6, 14, 15, 16] rfl (ih _ _ _ (by omega) ⟨k + 1, v3, rfl, by omega, rfl, h.pm5⟩)
    · rw [if_pos rfl, List.append_nil] at hsn
      rw [← hsn] at h
      repeat' (first | (refine gL ?_; refine p_val rfl (g_ldI (i := k) rfl (ownS_rd h (.there (.there .here))) (by omega) (by omega)) ?_; rw [hgz]) | (refine gC F.entry_Unpack ?_; refine p_call rfl rfl (entry_Unpack_spec _ hz0 hz1 h) ?_; rw [hu]; rintro _ w ⟨rfl, h⟩) | refine stP ?_ | (refine stC0_P33b ?_; rintro v w h) | (refine stC1_P33b ?_; rintro _ w ⟨rfl, h⟩) | (refine stC2_P33b ?_; rintro _ w ⟨bx, rfl, h⟩) | (refine p_cmp rfl rfl rfl rfl (fun hc => ?_) (fun hc => ?_) <;> simp only [cmpProp] at hc) | fail)
      exact x_keep [5, 6, 14, 15, 16] rfl (ih _ _ _ (by omega) ⟨k + 1, u, rfl, by omega, rfl, h.pm5⟩)
  · obtain rfl : k = vl := by omega
    rw [← hvl, List.take_length] at h
    repeat' (first | refine stPs ?_ | (refine stC0_P33b ?_; rintro v w h) | (refine stC1_P33b ?_; rintro _ w ⟨rfl, h⟩) | (refine stC2_P33b ?_; rintro _ w ⟨bx, rfl, h⟩) | (refine p_cmp rfl rfl rfl rfl (fun hc => ?_) (fun hc => ?_) <;> simp only [cmpProp] at hc) | fail)
    exact x_ret' is_grow_old rfl (h.pm3)

set_option maxHeartbeats 8000000 in
theorem grow_put_spec {b c d : Nat} {fin : IdxM → Prop} {st : Nat} {y : IdxM} (i : Nat) (e : EntM) (a0 : 0 ≤ e.addr) (t0 : 0 ≤ e.tag) (t1 : e.tag ≤ 16383) (hi : i < 2000) (hP : PutP fin (e.tag * 1125899906842624 + i) e.addr st y) (a1 : 1 ≤ e.addr) (a2 : e.addr ≤ 281474976710655) (h : Sat S w (pt b (.cells (idxC (y) c d) T.index_Index (0, 0)) :: isRow c (y).row :: isRow d (y).tk :: G)) :
    Ret Try.prog F.grow_put #[.pointer (some ⟨b, 0, none⟩), .int .i64 i, .agg (entC e).toArray] w (fun v w' => v = .int .i64 0 ∧ ∃ z, fin z ∧ Sat S w' (pt b (.cells (idxC (z) c d) T.index_Index (0, 0)) :: isRow c (z).row :: isRow d (z).tk :: G)) := by
  obtain ⟨ea, et, ef⟩ := e
  simp only at *
  have hh0 : 0 ≤ et * 1125899906842624 + (i : Int) := by omega
  have hh1 : et * 1125899906842624 + (i : Int) ≤ 18446744073709551615 := by omega
  refine ret_of is_grow_put rfl ?_
  repeat' (first | refine stPs ?_ | (refine stC1_P33b ?_; rintro _ w ⟨rfl, h⟩) | (refine stC2_P33b ?_; rintro _ w ⟨bx, rfl, h⟩) | (refine p_cmp rfl rfl rfl rfl (fun hc => ?_) (fun hc => ?_) <;> simp only [cmpProp] at hc) | fail)
  generalize et * 1125899906842624 + (i : Int) = hh at *
  refine x_keep [0, 5, 7] rfl ?_
  refine x_loop_inv (fun lm le w => ∃ (st : Nat), ∃ (y : IdxM), lm = st + st ∧ PutP fin hh ea st y ∧ le = [(0, .pointer (some ⟨b, 0, none⟩)), (5, .pointer (some ⟨bx, 0, none⟩)), (7, .int .u64 hh)] ∧ Sat S w (pt bx (.cells (entC ⟨ea, et, ef⟩).toArray T.api_Entry (0, 0)) :: pt b (.cells (idxC (y) c d) T.index_Index (0, 0)) :: isRow c (y).row :: isRow d (y).tk :: G)) (st + st) ⟨st, y, rfl, hP, rfl, h⟩ ?_
  clear h
  rintro lm le w ⟨st, y, rfl, hi0, rfl, h⟩ ih
  rcases hi0 with ⟨rfl, ⟨Cs, hF⟩, hk, hfin⟩ | ⟨rfl, ⟨Cs, hF⟩, hk, hp⟩ | ⟨rfl, ⟨Cs, hF⟩, hk, hlt, hp⟩
  · have hlb := look_bnd hF.ok hh
    have ht := (grow_found hF hk a1 a2).1
    obtain ⟨l, hl⟩ : ∃ l, lookV y hh = l := ⟨_, rfl⟩
    rw [hl] at hlb ht hk
    have hok := hF.ok.ok
    repeat' (first | (refine gC F.index_Index_Look ?_; refine p_call rfl rfl (index_Index_Look_spec _ hh0 hh1 hok (h.rf2)) ?_; rw [hl]; rintro _ w ⟨rfl, h⟩) | (refine gC F.index_Index_Turn ?_; refine p_call rfl rfl (index_Index_Turn_spec l.slot l.word ea (by omega) (by omega) a0 (h.rf3)) ?_; rw [ht]; rintro _ w ⟨rfl, h⟩) | refine stP ?_ | (refine stC1_P33b ?_; rintro _ w ⟨rfl, h⟩) | (refine stC2_P33b ?_; rintro _ w ⟨bx, rfl, h⟩) | (refine p_cmp rfl rfl rfl rfl (fun hc => ?_) (fun hc => ?_) <;> simp only [cmpProp] at hc) | fail)
    exact x_ret' is_grow_put rfl ⟨rfl, _, hfin, h.pm3⟩
  · have hlb := look_bnd hF.ok hh
    have ht := (grow_free hF hh0 hh1 ea hk).1
    obtain ⟨l, hl⟩ : ∃ l, lookV y hh = l := ⟨_, rfl⟩
    rw [hl] at hlb ht hk
    have hok := hF.ok.ok
    repeat' (first | (refine gC F.index_Index_Look ?_; refine p_call rfl rfl (index_Index_Look_spec _ hh0 hh1 hok (h.rf2)) ?_; rw [hl]; rintro _ w ⟨rfl, h⟩) | (refine gC F.index_Index_Claim ?_; refine p_call rfl rfl (index_Index_Claim_spec l.slot hh hh0 hh1 (h.rf3)) ?_; rw [ht]; rintro _ w ⟨rfl, h⟩) | refine stP ?_ | (refine stC1_P33b ?_; rintro _ w ⟨rfl, h⟩) | (refine stC2_P33b ?_; rintro _ w ⟨bx, rfl, h⟩) | (refine p_cmp rfl rfl rfl rfl (fun hc => ?_) (fun hc => ?_) <;> simp only [cmpProp] at hc) | fail)
    exact x_keep [0, 5, 7] rfl (ih _ _ _ (by omega) ⟨0, _, rfl, .inl ⟨rfl, hp⟩, rfl, h.pm4⟩)
  · have hlb := look_bnd hF.ok hh
    obtain ⟨_, _, _, _, hsp, ht, _⟩ := grow_full hF ea hk hlt
    obtain ⟨l, hl⟩ : ∃ l, lookV y hh = l := ⟨_, rfl⟩
    rw [hl] at hlb ht hk
    have hok := hF.ok.ok
    have hso := hok.spOk
    have hok2 := (spare_ok hF.ok (by omega)).ok
    obtain ⟨⟨q1, sx⟩, hsx⟩ : ∃ q, spareX y = q := ⟨_, rfl⟩
    rw [hsx] at hsp ht hok2
    simp only at hsp ht hok2
    subst hsp
    repeat' (first | (refine gC F.index_Index_Look ?_; refine p_call rfl rfl (index_Index_Look_spec _ hh0 hh1 hok (h.rf2)) ?_; rw [hl]; rintro _ w ⟨rfl, h⟩) | (refine gC F.index_Index_Spare ?_; refine p_call rfl rfl (index_Index_Spare_spec hso (h.rf3)) ?_; rw [hsx]; rintro _ w ⟨rfl, h⟩) | (refine gC F.index_Index_Link ?_; refine p_call rfl rfl (index_Index_Link_spec (x := sx) l.bucket _ hok2 (h.rf3)) ?_; rw [ht]; rintro _ w ⟨rfl, h⟩) | refine stP ?_ | (refine stC1_P33b ?_; rintro _ w ⟨rfl, h⟩) | (refine stC2_P33b ?_; rintro _ w ⟨bx, rfl, h⟩) | (refine p_cmp rfl rfl rfl rfl (fun hc => ?_) (fun hc => ?_) <;> simp only [cmpProp] at hc) | fail)
    exact x_keep [0, 5, 7] rfl (ih _ _ _ (by omega) ⟨1, _, rfl, .inr (.inl ⟨rfl, hp⟩), rfl, h.pm4⟩)
end
end Go.Proofs.Ytmlkeackapflhaa
