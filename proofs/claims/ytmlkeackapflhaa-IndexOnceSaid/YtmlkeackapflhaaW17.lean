/- Layer 17 (index): the statement IndexOnce. -/
import Derived.Test.YtmlkeackapflhaaHxS
import Derived.Test.YtmlkeackapflhaaL17g
import Derived.Test.YtmlkeackapflhaaN17
namespace Go.Proofs.Ytmlkeackapflhaa
open Go Go.HX
attribute [local irreducible] Ret XRun XOps XDr XOne Does Gives
set_option maxRecDepth 4000
set_option maxHeartbeats 1000000
theorem stC0_W17 {goal next : Prop} (k : next) (hs : Hid next → goal := by (intro k; (first | (refine gC F.law17_awake ?_; refine p_call rfl rfl (law17_awake_spec h) ?_) | (refine gC F.index_Index_Drop ?_; refine p_call rfl rfl (index_Index_Drop_nil h) ?_) | (refine gC F.index_Index_Drop ?_; refine p_call rfl rfl (index_Index_Drop_spec ?_ ?_ (h.rf3)) ?_; iterate 2 (first | assumption | omega | (simp only []; omega) | decide)) | (refine gC F.ref16_Unpack ?_; refine p_call rfl rfl (ref16_Unpack_spec _ ?_ ?_ h) ?_; iterate 2 (first | assumption | omega | (simp only []; omega) | decide)) | (refine gC F.index_Index_Look ?_; refine p_call rfl rfl (index_Index_Look_nil _ h) ?_) | (refine gC F.index_Index_Look ?_; refine p_call rfl rfl (index_Index_Look_spec _ ?_ ?_ ?_ (h.rf2)) ?_; iterate 3 (first | assumption | omega | (simp only []; omega) | decide)) | (refine gS ?_; (first | refine p_do rfl (d_stwL rfl rfl rfl rfl rfl (h.pick (by repeat first | exact .here | apply Has.there)) (by first | (dsimp only [Value.cells]; done) | exact rfl)) ?_ | refine p_do rfl (d_stL rfl rfl rfl (h.pick (by repeat first | exact .here | apply Has.there)) (by first | exact of_decide_eq_true rfl | simp) (by first | (dsimp only [List.set]; done) | exact rfl)) ?_)) | fail); exact k.out)) : goal := hs ⟨k⟩
theorem stC1_W17 {goal next : Prop} (k : next) (hs : Hid next → goal := by (intro k; (first | (refine gC F.index_New ?_; refine p_call rfl rfl (index_New_spec _ _ h) ?_) | fail); exact k.out)) : goal := hs ⟨k⟩
theorem stC2_W17 {goal next : Prop} (k : next) (hs : Hid next → goal := by (intro k; (first | (refine gC F.ref17_New ?_; refine p_call rfl rfl (ref17_New_spec _ _ h) ?_) | fail); exact k.out)) : goal := hs ⟨k⟩
theorem stC3_W17 {goal next : Prop} (k : next) (hs : Hid next → goal := by (intro k; (first | (refine gC F.law17_small ?_; refine p_call rfl rfl (law17_small_spec _ _ h) ?_) | fail); exact k.out)) : goal := hs ⟨k⟩
theorem stC4_W17 {goal next : Prop} (k : next) (hs : Hid next → goal := by (intro k; (first | (refine gC F.ref17_Index_Entries ?_; refine p_call rfl rfl (ref17_Index_Entries_spec _ ?_ ?_ (h.rf2)) ?_; iterate 2 (first | assumption | omega | (simp only []; omega) | decide)) | fail); exact k.out)) : goal := hs ⟨k⟩
theorem stC5_W17 {goal next : Prop} (k : next) (hs : Hid next → goal := by (intro k; (first | (refine gN ?_; refine p_do rfl (d_newL h (by first | (dsimp only [Value.cells]; done) | exact rfl)) ?_) | fail); exact k.out)) : goal := hs ⟨k⟩
theorem stD6_W17 {goal next : Prop} (k : next) (hs : Hid next → goal := by (intro k; (first | (refine gCR F.ref03_Bucket ?_; refine r_call rfl rfl rfl (ref03_Bucket_spec _ _ ?_ ?_ h) ?_; iterate 2 (first | assumption | omega | (simp only []; omega) | decide)) | (refine gCR F.ref03_Tag ?_; refine r_call rfl rfl rfl (ref03_Tag_spec _ ?_ ?_ h) ?_; iterate 2 (first | assumption | omega | (simp only []; omega) | decide)) | fail); exact k.out)) : goal := hs ⟨k⟩
section
variable {S : SP} {w : World} {G : List HProp}

set_option maxHeartbeats 8000000 in
theorem law17_small_spec (n s : Int) (h : Sat S w G) : Ret Try.prog F.law17_small #[.int .i64 n, .int .i64 s] w (fun v w' => BoolIs v (n ≤ 16 ∧ s ≤ 8) ∧ Sat S w' G) := by
  refine ret_of is_law17_small rfl ?_
  repeat' (first | refine stPs ?_ | (refine p_cmp rfl rfl rfl rfl (fun hc => ?_) (fun hc => ?_) <;> simp only [cmpProp] at hc) | fail)
  all_goals refine x_ret' is_law17_small rfl ⟨?_, h⟩
  all_goals first | exact .t (by omega) | exact .f (by omega)

set_option maxHeartbeats 16000000 in
theorem law17_IndexOnce_spec {v2 : Value} (n s : Int) (l : List Act17) (hA : Old S 8 v2 (rows act17C l)) (hl : ∀ a ∈ l, (0 ≤ a.h ∧ a.h ≤ 18446744073709551615) ∧ 0 ≤ a.addr) (h : Sat S w G) :
    Ret Try.prog F.law17_IndexOnce #[.int .i64 n, .int .i64 s, v2] w (fun v w' => v = .bool true ∧ Sat S w' []) := by
  obtain ⟨a2, l2, c2, rfl, _⟩ := hA _ w h
  have hlen := (hA _ w h).rlen act17C_len (by decide)
  refine ret_of is_law17_IndexOnce rfl ?_
  repeat' (first | (refine gC F.index_New ?_; refine p_call rfl rfl (index_New_spec n s h) ?_; rintro _ w (⟨hx, rfl, h⟩ | ⟨hq, b, c, d, rfl, h⟩)) | (refine gC F.ref17_New ?_; refine p_call rfl rfl (ref17_New_spec n s h) ?_; first | (rintro _ w (⟨hx2, rfl, h⟩ | ⟨hq2, m, q, len, cap, rfl, h⟩) <;> first | exact absurd hq2 hx | exact absurd hq hx2 | skip)) | refine stP ?_ | (refine stC0_W17 ?_; rintro _ w ⟨rfl, h⟩) | (refine stC1_W17 ?_; rintro _ w (⟨hq1, rfl, h⟩ | ⟨⟨hq2, hq3, hq4⟩, ⟨b, c, d, rfl, h⟩⟩)) | (refine stC2_W17 ?_; rintro _ w (⟨hq1, rfl, h⟩ | ⟨⟨hq2, hq3, hq4⟩, ⟨m, q, len, cap, rfl, h⟩⟩)) | (refine stC3_W17 ?_; rintro _ w ⟨(⟨rfl, hb⟩ | ⟨rfl, hb⟩), h⟩) | (refine stC4_W17 ?_; rintro v w h) | (refine stC5_W17 ?_; rintro _ w ⟨bx, rfl, h⟩) | (refine stD6_W17 ?_; rintro _ w ⟨rfl, h⟩ <;> refine nowa ?_) | (refine p_cmp rfl rfl rfl rfl (fun hc => ?_) (fun hc => ?_) <;> simp only [cmpProp] at hc) | (refine r_cmp rfl rfl rfl rfl rfl (fun hc => ?_) (fun hc => ?_) <;> simp only [cmpProp] at hc) | (refine x_drawn rfl ?_; have h := h.drew) | refine x_drawn rfl ?_ | fail)
  all_goals first | exact x_ret' is_law17_IndexOnce rfl ⟨rfl, h.nil⟩ | skip
  obtain ⟨Cs0, hF0⟩ := forest_zero hq.1 hq.2.1 hq.2.2
  have hn1 := mayN_le hq.1
  have hnb0 : ((idx0 n s).nb : Int) = n := by unfold idx0; simp only; omega
  refine x_keep [0, 2, 7, 9, 11] rfl ?_
  refine x_loop_inv (fun lm le w => ∃ (i : Nat), ∃ (x : IdxM), ∃ (q len cap : Nat), lm = l2 - i ∧ i ≤ l2 ∧ i ≤ 150 ∧ (∃ Cs, Forest x Cs) ∧ (x.nb : Int) = n ∧ le = [(0, .int .i64 n), (2, .slice a2 l2 c2), (7, .pointer (some ⟨b, 0, none⟩)), (9, .pointer (some ⟨m, 0, none⟩)), (11, .int .i64 i)] ∧ Sat S w (pt b (.cells (idxC (x) c d) T.index_Index (0, 0)) :: isRow c (x).row :: isRow d (x).tk :: pt m (.cells (refC (x) (.slice (some ⟨q, 0, none⟩) len cap)) T.haycroftref17_Index (0, 0)) :: ownS T.arr_8_uint64 8 (.slice (some ⟨q, 0, none⟩) len cap) (ints .u64 (x).row.ws) :: G)) (l2) ⟨0, idx0 n s, q, len, cap, rfl, by omega, by omega, ⟨Cs0, hF0⟩, hnb0, rfl, h.pm5⟩ ?_
  clear h
  rintro lm le w ⟨i, x, q, len, cap, rfl, hi0, hi1, hi2, hi3, rfl, h⟩ ih
  by_cases hi : i < l2 ∧ i < 150
  · obtain ⟨a, ha⟩ := has_elem (show i < l.length by omega)
    obtain ⟨pa, po, rfl⟩ := (hA _ w h).addr (by omega)
    obtain ⟨⟨ah0, ah1⟩, aa0⟩ := hl a (List.mem_of_getElem? ha)
    repeat' (first | (refine gL ?_; refine p_val rfl (g_ldE act17C_len rfl (hA _ _ h) ha (by omega)) ?_) | (refine gB .eql ?_; refine p_val rfl (g_cmp rfl rfl rfl) ?_) | refine stP ?_ | (refine stC0_W17 ?_; rintro _ w ⟨rfl, h⟩) | (refine stC1_W17 ?_; rintro _ w (⟨hq1, rfl, h⟩ | ⟨⟨hq2, hq3, hq4⟩, ⟨b, c, d, rfl, h⟩⟩)) | (refine stC2_W17 ?_; rintro _ w (⟨hq1, rfl, h⟩ | ⟨⟨hq2, hq3, hq4⟩, ⟨m, q, len, cap, rfl, h⟩⟩)) | (refine stC3_W17 ?_; rintro _ w ⟨(⟨rfl, hb⟩ | ⟨rfl, hb⟩), h⟩) | (refine stC4_W17 ?_; rintro v w h) | (refine stC5_W17 ?_; rintro _ w ⟨bx, rfl, h⟩) | (refine stD6_W17 ?_; rintro _ w ⟨rfl, h⟩ <;> refine nowa ?_) | (refine p_cmp rfl rfl rfl rfl (fun hc => ?_) (fun hc => ?_) <;> simp only [cmpProp] at hc) | (refine r_cmp rfl rfl rfl rfl rfl (fun hc => ?_) (fun hc => ?_) <;> simp only [cmpProp] at hc) | (refine x_drawn rfl ?_; have h := h.drew) | refine x_drawn rfl ?_ | fail)
    generalize hd : decide (cmpProp .eql a.kind 5) = dd
    refine x_cut (fun le w => ∃ (x : IdxM), ∃ (q len cap : Nat), (∃ Cs, Forest x Cs) ∧ (x.nb : Int) = n ∧ le = [(0, .int .i64 n), (2, .slice (some ⟨pa, po, none⟩) l2 c2), (7, .pointer (some ⟨b, 0, none⟩)), (9, .pointer (some ⟨m, 0, none⟩)), (11, .int .i64 i)] ∧ Sat S w (pt b (.cells (idxC (x) c d) T.index_Index (0, 0)) :: isRow c (x).row :: isRow d (x).tk :: pt m (.cells (refC (x) (.slice (some ⟨q, 0, none⟩) len cap)) T.haycroftref17_Index (0, 0)) :: ownS T.arr_8_uint64 8 (.slice (some ⟨q, 0, none⟩) len cap) (ints .u64 (x).row.ws) :: G)) (fun kj jn => ?_) ?_
    rotate_left
    · clear h
      rintro le w ⟨x, q, len, cap, hi0, hi1, rfl, h⟩
      obtain ⟨Cs, hF⟩ := hi0
      have hok := hF.ok
      have hsm := idx_small hok.ok
      repeat' (first | refine stPs ?_ | (refine stC0_W17 ?_; rintro _ w ⟨rfl, h⟩) | (refine stC1_W17 ?_; rintro _ w (⟨hq1, rfl, h⟩ | ⟨⟨hq2, hq3, hq4⟩, ⟨b, c, d, rfl, h⟩⟩)) | (refine stC2_W17 ?_; rintro _ w (⟨hq1, rfl, h⟩ | ⟨⟨hq2, hq3, hq4⟩, ⟨m, q, len, cap, rfl, h⟩⟩)) | (refine stC3_W17 ?_; rintro _ w ⟨(⟨rfl, hb⟩ | ⟨rfl, hb⟩), h⟩) | (refine stC4_W17 ?_; rintro v w h) | (refine stC5_W17 ?_; rintro _ w ⟨bx, rfl, h⟩) | (refine stD6_W17 ?_; rintro _ w ⟨rfl, h⟩ <;> refine nowa ?_) | (refine p_cmp rfl rfl rfl rfl (fun hc => ?_) (fun hc => ?_) <;> simp only [cmpProp] at hc) | (refine r_cmp rfl rfl rfl rfl rfl (fun hc => ?_) (fun hc => ?_) <;> simp only [cmpProp] at hc) | (refine x_drawn rfl ?_; have h := h.drew) | refine x_drawn rfl ?_ | fail)
      refine x_keep [0, 2, 7, 9, 11, 13] rfl ?_
      refine x_loop_inv (fun lm le w => ∃ (k : Nat), lm = x.nb - k ∧ k ≤ x.nb ∧ le = [(0, .int .i64 n), (2, .slice (some ⟨pa, po, none⟩) l2 c2), (7, .pointer (some ⟨b, 0, none⟩)), (9, .pointer (some ⟨m, 0, none⟩)), (11, .int .i64 i), (13, .int .i64 k)] ∧ Sat S w (pt b (.cells (idxC (x) c d) T.index_Index (0, 0)) :: isRow c (x).row :: isRow d (x).tk :: pt m (.cells (refC (x) (.slice (some ⟨q, 0, none⟩) len cap)) T.haycroftref17_Index (0, 0)) :: ownS T.arr_8_uint64 8 (.slice (some ⟨q, 0, none⟩) len cap) (ints .u64 (x).row.ws) :: G)) (x.nb) ⟨0, rfl, by omega, rfl, h⟩ ?_
      clear h
      rintro lm le w ⟨k, rfl, hi0, rfl, h⟩ ih2
      by_cases hk : k < x.nb
      · obtain ⟨hpw, hew⟩ := forest_entries hF hk
        have hkall : k < x.all := by omega
        repeat' (first | refine stPs ?_ | (refine stC0_W17 ?_; rintro _ w ⟨rfl, h⟩) | (refine stC1_W17 ?_; rintro _ w (⟨hq1, rfl, h⟩ | ⟨⟨hq2, hq3, hq4⟩, ⟨b, c, d, rfl, h⟩⟩)) | (refine stC2_W17 ?_; rintro _ w (⟨hq1, rfl, h⟩ | ⟨⟨hq2, hq3, hq4⟩, ⟨m, q, len, cap, rfl, h⟩⟩)) | (refine stC3_W17 ?_; rintro _ w ⟨(⟨rfl, hb⟩ | ⟨rfl, hb⟩), h⟩) | (refine stC4_W17 ?_; rintro v w h) | (refine stC5_W17 ?_; rintro _ w ⟨bx, rfl, h⟩) | (refine stD6_W17 ?_; rintro _ w ⟨rfl, h⟩ <;> refine nowa ?_) | (refine p_cmp rfl rfl rfl rfl (fun hc => ?_) (fun hc => ?_) <;> simp only [cmpProp] at hc) | (refine r_cmp rfl rfl rfl rfl rfl (fun hc => ?_) (fun hc => ?_) <;> simp only [cmpProp] at hc) | (refine x_drawn rfl ?_; have h := h.drew) | refine x_drawn rfl ?_ | fail)
        obtain ⟨ea, el, ec, rfl, hel, _⟩ := ownS_slice h .here
        rw [ints_length, Nat.mul_one] at hel
        have hell : el ≤ 100000 := by
          rw [← hel]
          unfold IdxM.entries
          have h1 := List.length_filter_le nz (x.words k)
          have h2 : (x.words k).length = (x.chain k).length * 7 := by unfold IdxM.words; rw [List.length_map, slotsG_length]
          have h3 : (x.chain k).length ≤ x.all + 1 := chainG_length x.lnk (x.all + 1) k
          omega
        refine x_keep [0, 2, 7, 9, 11, 13, 14, 15] rfl ?_
        refine x_loop_inv (fun lm le w => ∃ (j : Nat), lm = el - j ∧ j ≤ el ∧ le = [(0, .int .i64 n), (2, .slice (some ⟨pa, po, none⟩) l2 c2), (7, .pointer (some ⟨b, 0, none⟩)), (9, .pointer (some ⟨m, 0, none⟩)), (11, .int .i64 i), (13, .int .i64 k), (14, .slice ea el ec), (15, .int .i64 j)] ∧ Sat S w (ownS T.uint64 1 (.slice ea el ec) (ints .u64 (x.entries k)) :: pt b (.cells (idxC (x) c d) T.index_Index (0, 0)) :: isRow c (x).row :: isRow d (x).tk :: pt m (.cells (refC (x) (.slice (some ⟨q, 0, none⟩) len cap)) T.haycroftref17_Index (0, 0)) :: ownS T.arr_8_uint64 8 (.slice (some ⟨q, 0, none⟩) len cap) (ints .u64 (x).row.ws) :: G)) (el) ⟨0, rfl, by omega, rfl, h.pm6⟩ ?_
        clear h
        rintro lm le w ⟨j, rfl, hi0, rfl, h⟩ ih3
        by_cases hj : j < el
        · obtain ⟨u, hu⟩ := has_elem (show j < (x.entries k).length by omega)
          obtain ⟨_, _, u0, u1⟩ := hew u (List.mem_of_getElem? hu)
          have hgu : (x.entries k).getD j 0 = u := by rw [List.getD_eq_getElem?_getD, hu]; rfl
          obtain ⟨pe, rfl⟩ := ownS_addr (E := T.uint64) h .here (by omega)
          repeat' (first | (refine gL ?_; refine p_val rfl (g_ldI (i := j) rfl (ownS_rd h .here) (by omega) (by omega)) ?_; rw [hgu]) | refine stP ?_ | (refine stC0_W17 ?_; rintro _ w ⟨rfl, h⟩) | (refine stC1_W17 ?_; rintro _ w (⟨hq1, rfl, h⟩ | ⟨⟨hq2, hq3, hq4⟩, ⟨b, c, d, rfl, h⟩⟩)) | (refine stC2_W17 ?_; rintro _ w (⟨hq1, rfl, h⟩ | ⟨⟨hq2, hq3, hq4⟩, ⟨m, q, len, cap, rfl, h⟩⟩)) | (refine stC3_W17 ?_; rintro _ w ⟨(⟨rfl, hb⟩ | ⟨rfl, hb⟩), h⟩) | (refine stC4_W17 ?_; rintro v w h) | (refine stC5_W17 ?_; rintro _ w ⟨bx, rfl, h⟩) | (refine stD6_W17 ?_; rintro _ w ⟨rfl, h⟩ <;> refine nowa ?_) | (refine p_cmp rfl rfl rfl rfl (fun hc => ?_) (fun hc => ?_) <;> simp only [cmpProp] at hc) | (refine r_cmp rfl rfl rfl rfl rfl (fun hc => ?_) (fun hc => ?_) <;> simp only [cmpProp] at hc) | (refine x_drawn rfl ?_; have h := h.drew) | refine x_drawn rfl ?_ | fail)
          refine x_keep [0, 2, 7, 9, 11, 13, 14, 15, 16, 18] rfl ?_
          refine x_loop_inv (fun lm le w => ∃ (t : Nat), lm = j - t ∧ t ≤ j ∧ le = [(0, .int .i64 n), (2, .slice (some ⟨pa, po, none⟩) l2 c2), (7, .pointer (some ⟨b, 0, none⟩)), (9, .pointer (some ⟨m, 0, none⟩)), (11, .int .i64 i), (13, .int .i64 k), (14, .slice (some ⟨pe, 0, none⟩) el ec), (15, .int .i64 j), (16, .pointer (some ⟨bx, 0, none⟩)), (18, .int .i64 t)] ∧ Sat S w (ownS T.uint64 1 (.slice (some ⟨pe, 0, none⟩) el ec) (ints .u64 (x.entries k)) :: pt bx (.cells (entC (unpackE u).1).toArray T.api_Entry (0, 0)) :: pt b (.cells (idxC (x) c d) T.index_Index (0, 0)) :: isRow c (x).row :: isRow d (x).tk :: pt m (.cells (refC (x) (.slice (some ⟨q, 0, none⟩) len cap)) T.haycroftref17_Index (0, 0)) :: ownS T.arr_8_uint64 8 (.slice (some ⟨q, 0, none⟩) len cap) (ints .u64 (x).row.ws) :: G)) (j) ⟨0, rfl, by omega, rfl, h.pm7⟩ ?_
          clear h
          rintro lm le w ⟨t, rfl, hi0, rfl, h⟩ ih4
          by_cases ht : t < j
          · obtain ⟨z, hz⟩ := has_elem (show t < (x.entries k).length by omega)
            obtain ⟨_, _, z0, z1⟩ := hew z (List.mem_of_getElem? hz)
            have hgz : (x.entries k).getD t 0 = z := by rw [List.getD_eq_getElem?_getD, hz]; rfl
            have hne : (unpackE z).1.tag ≠ (unpackE u).1.tag := by
              obtain ⟨t1, t2⟩ := List.getElem?_eq_some_iff.1 hz
              obtain ⟨j1, j2⟩ := List.getElem?_eq_some_iff.1 hu
              have := (List.pairwise_iff_getElem.1 hpw) t j t1 j1 ht
              rw [t2, j2] at this
              exact this
            repeat' (first | (refine gL ?_; refine p_val rfl (g_ldI (i := t) rfl (ownS_rd h .here) (by omega) (by omega)) ?_; rw [hgz]) | refine stP ?_ | (refine stC0_W17 ?_; rintro _ w ⟨rfl, h⟩) | (refine stC1_W17 ?_; rintro _ w (⟨hq1, rfl, h⟩ | ⟨⟨hq2, hq3, hq4⟩, ⟨b, c, d, rfl, h⟩⟩)) | (refine stC2_W17 ?_; rintro _ w (⟨hq1, rfl, h⟩ | ⟨⟨hq2, hq3, hq4⟩, ⟨m, q, len, cap, rfl, h⟩⟩)) | (refine stC3_W17 ?_; rintro _ w ⟨(⟨rfl, hb⟩ | ⟨rfl, hb⟩), h⟩) | (refine stC4_W17 ?_; rintro v w h) | (refine stC5_W17 ?_; rintro _ w ⟨bx, rfl, h⟩) | (refine stD6_W17 ?_; rintro _ w ⟨rfl, h⟩ <;> refine nowa ?_) | (refine p_cmp rfl rfl rfl rfl (fun hc => ?_) (fun hc => ?_) <;> simp only [cmpProp] at hc) | (refine r_cmp rfl rfl rfl rfl rfl (fun hc => ?_) (fun hc => ?_) <;> simp only [cmpProp] at hc) | (refine x_drawn rfl ?_; have h := h.drew) | refine x_drawn rfl ?_ | fail)
            exact x_keep [0, 2, 7, 9, 11, 13, 14, 15, 16, 18] rfl (ih4 _ _ _ (by omega) ⟨t + 1, rfl, by omega, rfl, h.pm7⟩)
          · repeat' (first | refine stPs ?_ | (refine stC0_W17 ?_; rintro _ w ⟨rfl, h⟩) | (refine stC1_W17 ?_; rintro _ w (⟨hq1, rfl, h⟩ | ⟨⟨hq2, hq3, hq4⟩, ⟨b, c, d, rfl, h⟩⟩)) | (refine stC2_W17 ?_; rintro _ w (⟨hq1, rfl, h⟩ | ⟨⟨hq2, hq3, hq4⟩, ⟨m, q, len, cap, rfl, h⟩⟩)) | (refine stC3_W17 ?_; rintro _ w ⟨(⟨rfl, hb⟩ | ⟨rfl, hb⟩), h⟩) | (refine stC4_W17 ?_; rintro v w h) | (refine stC5_W17 ?_; rintro _ w ⟨bx, rfl, h⟩) | (refine stD6_W17 ?_; rintro _ w ⟨rfl, h⟩ <;> refine nowa ?_) | (refine p_cmp rfl rfl rfl rfl (fun hc => ?_) (fun hc => ?_) <;> simp only [cmpProp] at hc) | (refine r_cmp rfl rfl rfl rfl rfl (fun hc => ?_) (fun hc => ?_) <;> simp only [cmpProp] at hc) | (refine x_drawn rfl ?_; have h := h.drew) | refine x_drawn rfl ?_ | fail)
            exact x_keep [0, 2, 7, 9, 11, 13, 14, 15] rfl (ih3 _ _ _ (by omega) ⟨j + 1, rfl, by omega, rfl, h.pm6⟩)
        · repeat' (first | refine stPs ?_ | (refine stC0_W17 ?_; rintro _ w ⟨rfl, h⟩) | (refine stC1_W17 ?_; rintro _ w (⟨hq1, rfl, h⟩ | ⟨⟨hq2, hq3, hq4⟩, ⟨b, c, d, rfl, h⟩⟩)) | (refine stC2_W17 ?_; rintro _ w (⟨hq1, rfl, h⟩ | ⟨⟨hq2, hq3, hq4⟩, ⟨m, q, len, cap, rfl, h⟩⟩)) | (refine stC3_W17 ?_; rintro _ w ⟨(⟨rfl, hb⟩ | ⟨rfl, hb⟩), h⟩) | (refine stC4_W17 ?_; rintro v w h) | (refine stC5_W17 ?_; rintro _ w ⟨bx, rfl, h⟩) | (refine stD6_W17 ?_; rintro _ w ⟨rfl, h⟩ <;> refine nowa ?_) | (refine p_cmp rfl rfl rfl rfl (fun hc => ?_) (fun hc => ?_) <;> simp only [cmpProp] at hc) | (refine r_cmp rfl rfl rfl rfl rfl (fun hc => ?_) (fun hc => ?_) <;> simp only [cmpProp] at hc) | (refine x_drawn rfl ?_; have h := h.drew) | refine x_drawn rfl ?_ | fail)
          exact x_keep [0, 2, 7, 9, 11, 13] rfl (ih2 _ _ _ (by omega) ⟨k + 1, rfl, by omega, rfl, h.pm5⟩)
      · repeat' (first | refine stPs ?_ | (refine stC0_W17 ?_; rintro _ w ⟨rfl, h⟩) | (refine stC1_W17 ?_; rintro _ w (⟨hq1, rfl, h⟩ | ⟨⟨hq2, hq3, hq4⟩, ⟨b, c, d, rfl, h⟩⟩)) | (refine stC2_W17 ?_; rintro _ w (⟨hq1, rfl, h⟩ | ⟨⟨hq2, hq3, hq4⟩, ⟨m, q, len, cap, rfl, h⟩⟩)) | (refine stC3_W17 ?_; rintro _ w ⟨(⟨rfl, hb⟩ | ⟨rfl, hb⟩), h⟩) | (refine stC4_W17 ?_; rintro v w h) | (refine stC5_W17 ?_; rintro _ w ⟨bx, rfl, h⟩) | (refine stD6_W17 ?_; rintro _ w ⟨rfl, h⟩ <;> refine nowa ?_) | (refine p_cmp rfl rfl rfl rfl (fun hc => ?_) (fun hc => ?_) <;> simp only [cmpProp] at hc) | (refine r_cmp rfl rfl rfl rfl rfl (fun hc => ?_) (fun hc => ?_) <;> simp only [cmpProp] at hc) | (refine x_drawn rfl ?_; have h := h.drew) | refine x_drawn rfl ?_ | fail)
        exact x_keep [0, 2, 7, 9, 11] rfl (ih _ _ _ (by omega) ⟨i + 1, x, q, len, cap, rfl, by omega, by omega, ⟨Cs, hF⟩, hi1, rfl, h⟩)
    · obtain ⟨Cs, hF⟩ := hi2
      have hok := hF.ok
      cases dd
      · repeat' (first | (refine gC F.law17_grows ?_; refine p_call rfl rfl (law17_grows_spec a hok ah0 ah1 aa0 (claim_wins hF a.h) (h.rf5)) ?_; rintro _ w ⟨rfl, h⟩) | refine stP ?_ | (refine stC0_W17 ?_; rintro _ w ⟨rfl, h⟩) | (refine stC1_W17 ?_; rintro _ w (⟨hq1, rfl, h⟩ | ⟨⟨hq2, hq3, hq4⟩, ⟨b, c, d, rfl, h⟩⟩)) | (refine stC2_W17 ?_; rintro _ w (⟨hq1, rfl, h⟩ | ⟨⟨hq2, hq3, hq4⟩, ⟨m, q, len, cap, rfl, h⟩⟩)) | (refine stC3_W17 ?_; rintro _ w ⟨(⟨rfl, hb⟩ | ⟨rfl, hb⟩), h⟩) | (refine stC4_W17 ?_; rintro v w h) | (refine stC5_W17 ?_; rintro _ w ⟨bx, rfl, h⟩) | (refine stD6_W17 ?_; rintro _ w ⟨rfl, h⟩ <;> refine nowa ?_) | (refine p_cmp rfl rfl rfl rfl (fun hc => ?_) (fun hc => ?_) <;> simp only [cmpProp] at hc) | (refine r_cmp rfl rfl rfl rfl rfl (fun hc => ?_) (fun hc => ?_) <;> simp only [cmpProp] at hc) | (refine x_drawn rfl ?_; have h := h.drew) | refine x_drawn rfl ?_ | fail)
        exact x_keep [0, 2, 7, 9, 11] rfl (jn _ _ ⟨growX x a.h a.addr, q, len, cap, forest_grow hF ah0 ah1 aa0, by rw [(grow_nb _ _ _).1]; exact hi3, rfl, h.pm5⟩)
      · have hcp := laid_cap hF
        obtain ⟨Cs', hF', _⟩ := forest_drop hF
        repeat' (first | (refine gC F.index_Index_Drop ?_; refine p_call rfl rfl (index_Index_Drop_spec hok.ok hcp.2 (h.rf3)) ?_; rintro _ w ⟨rfl, h⟩) | (refine gC F.ref17_Index_Drop ?_; refine p_call rfl rfl (ref17_Index_Drop_spec hok hcp.2 hF.ent (h.rf2)) ?_; rintro _ w ⟨rfl, q, len, cap, h⟩) | refine stP ?_ | (refine stC0_W17 ?_; rintro _ w ⟨rfl, h⟩) | (refine stC1_W17 ?_; rintro _ w (⟨hq1, rfl, h⟩ | ⟨⟨hq2, hq3, hq4⟩, ⟨b, c, d, rfl, h⟩⟩)) | (refine stC2_W17 ?_; rintro _ w (⟨hq1, rfl, h⟩ | ⟨⟨hq2, hq3, hq4⟩, ⟨m, q, len, cap, rfl, h⟩⟩)) | (refine stC3_W17 ?_; rintro _ w ⟨(⟨rfl, hb⟩ | ⟨rfl, hb⟩), h⟩) | (refine stC4_W17 ?_; rintro v w h) | (refine stC5_W17 ?_; rintro _ w ⟨bx, rfl, h⟩) | (refine stD6_W17 ?_; rintro _ w ⟨rfl, h⟩ <;> refine nowa ?_) | (refine p_cmp rfl rfl rfl rfl (fun hc => ?_) (fun hc => ?_) <;> simp only [cmpProp] at hc) | (refine r_cmp rfl rfl rfl rfl rfl (fun hc => ?_) (fun hc => ?_) <;> simp only [cmpProp] at hc) | (refine x_drawn rfl ?_; have h := h.drew) | refine x_drawn rfl ?_ | fail)
        exact x_keep [0, 2, 7, 9, 11] rfl (jn _ _ ⟨x.drop, q, len, cap, ⟨Cs', hF'⟩, hi3, rfl, h.pm5⟩)
  · obtain ⟨Cs, hF⟩ := hi2
    have hok := hF.ok
    have hiok := hok.ok
    have hsm := idx_small hok.ok
    repeat' (first | refine stPs ?_ | (refine stC0_W17 ?_; rintro _ w ⟨rfl, h⟩) | (refine stC1_W17 ?_; rintro _ w (⟨hq1, rfl, h⟩ | ⟨⟨hq2, hq3, hq4⟩, ⟨b, c, d, rfl, h⟩⟩)) | (refine stC2_W17 ?_; rintro _ w (⟨hq1, rfl, h⟩ | ⟨⟨hq2, hq3, hq4⟩, ⟨m, q, len, cap, rfl, h⟩⟩)) | (refine stC3_W17 ?_; rintro _ w ⟨(⟨rfl, hb⟩ | ⟨rfl, hb⟩), h⟩) | (refine stC4_W17 ?_; rintro v w h) | (refine stC5_W17 ?_; rintro _ w ⟨bx, rfl, h⟩) | (refine stD6_W17 ?_; rintro _ w ⟨rfl, h⟩ <;> refine nowa ?_) | (refine p_cmp rfl rfl rfl rfl (fun hc => ?_) (fun hc => ?_) <;> simp only [cmpProp] at hc) | (refine r_cmp rfl rfl rfl rfl rfl (fun hc => ?_) (fun hc => ?_) <;> simp only [cmpProp] at hc) | (refine x_drawn rfl ?_; have h := h.drew) | refine x_drawn rfl ?_ | fail)
    all_goals first | (exfalso; omega) | skip
    all_goals
      refine x_keep [0, 2, 7, 9, 21] rfl ?_
      refine x_loop_inv (fun lm le w => ∃ (i : Nat), lm = l2 - i ∧ i ≤ l2 ∧ i ≤ 150 ∧ le = [(0, .int .i64 n), (2, .slice a2 l2 c2), (7, .pointer (some ⟨b, 0, none⟩)), (9, .pointer (some ⟨m, 0, none⟩)), (21, .int .i64 i)] ∧ Sat S w (pt b (.cells (idxC (x) c d) T.index_Index (0, 0)) :: isRow c (x).row :: isRow d (x).tk :: pt m (.cells (refC (x) (.slice (some ⟨q, 0, none⟩) len cap)) T.haycroftref17_Index (0, 0)) :: ownS T.arr_8_uint64 8 (.slice (some ⟨q, 0, none⟩) len cap) (ints .u64 (x).row.ws) :: G)) (l2) ⟨0, rfl, by omega, by omega, rfl, h⟩ ?_
      clear h
      rintro lm le w ⟨i, rfl, hi0, hi1, rfl, h⟩ ih
      by_cases hi : i < l2 ∧ i < 150
      · obtain ⟨a, ha⟩ := has_elem (show i < l.length by omega)
        obtain ⟨pa, po, rfl⟩ := (hA _ w h).addr (by omega)
        obtain ⟨⟨ah0, ah1⟩, aa0⟩ := hl a (List.mem_of_getElem? ha)
        obtain ⟨bb, hbb, hbe, hlk⟩ := look_entries hF a.h
        rw [hi3] at hbe
        have hT : tagZ a.h = a.h / 1125899906842624 := rfl
        repeat' (first | refine stPs ?_ | (refine stC0_W17 ?_; rintro _ w ⟨rfl, h⟩) | (refine stC1_W17 ?_; rintro _ w (⟨hq1, rfl, h⟩ | ⟨⟨hq2, hq3, hq4⟩, ⟨b, c, d, rfl, h⟩⟩)) | (refine stC2_W17 ?_; rintro _ w (⟨hq1, rfl, h⟩ | ⟨⟨hq2, hq3, hq4⟩, ⟨m, q, len, cap, rfl, h⟩⟩)) | (refine stC3_W17 ?_; rintro _ w ⟨(⟨rfl, hb⟩ | ⟨rfl, hb⟩), h⟩) | (refine stC4_W17 ?_; rintro v w h) | (refine stC5_W17 ?_; rintro _ w ⟨bx, rfl, h⟩) | (refine stD6_W17 ?_; rintro _ w ⟨rfl, h⟩ <;> refine nowa ?_) | (refine p_cmp rfl rfl rfl rfl (fun hc => ?_) (fun hc => ?_) <;> simp only [cmpProp] at hc) | (refine r_cmp rfl rfl rfl rfl rfl (fun hc => ?_) (fun hc => ?_) <;> simp only [cmpProp] at hc) | (refine x_drawn rfl ?_; have h := h.drew) | refine x_drawn rfl ?_ | fail)
        refine x_keep [0, 2, 7, 9, 21, 22, 23, 24] rfl ?_
        refine x_loop_inv (fun lm le w => ∃ (k : Nat), ∃ (fd : Bool), ∃ (wv : Int), lm = x.nb - k ∧ k ≤ x.nb ∧ ((fd = false ∧ wv = 0 ∧ (bb < k → ∀ w ∈ x.entries bb, (unpackE w).1.tag ≠ tagZ a.h)) ∨ (fd = true ∧ bb < k ∧ wv ∈ x.entries bb ∧ (unpackE wv).1.tag = tagZ a.h)) ∧ le = [(0, .int .i64 n), (2, .slice (some ⟨pa, po, none⟩) l2 c2), (7, .pointer (some ⟨b, 0, none⟩)), (9, .pointer (some ⟨m, 0, none⟩)), (21, .int .i64 i), (22, .int .u64 wv), (23, .bool fd), (24, .int .i64 k)] ∧ Sat S w (pt b (.cells (idxC (x) c d) T.index_Index (0, 0)) :: isRow c (x).row :: isRow d (x).tk :: pt m (.cells (refC (x) (.slice (some ⟨q, 0, none⟩) len cap)) T.haycroftref17_Index (0, 0)) :: ownS T.arr_8_uint64 8 (.slice (some ⟨q, 0, none⟩) len cap) (ints .u64 (x).row.ws) :: G)) (x.nb) ⟨0, false, 0, rfl, by omega, .inl ⟨rfl, rfl, fun hx => absurd hx (Nat.not_lt_zero _)⟩, rfl, h⟩ ?_
        clear h
        rintro lm le w ⟨k, fd, wv, rfl, hi0, hi1, rfl, h⟩ ih2
        by_cases hk : k < x.nb
        · obtain ⟨hpw, hew⟩ := forest_entries hF hk
          have hkall : k < x.all := by omega
          repeat' (first | refine stPs ?_ | (refine stC0_W17 ?_; rintro _ w ⟨rfl, h⟩) | (refine stC1_W17 ?_; rintro _ w (⟨hq1, rfl, h⟩ | ⟨⟨hq2, hq3, hq4⟩, ⟨b, c, d, rfl, h⟩⟩)) | (refine stC2_W17 ?_; rintro _ w (⟨hq1, rfl, h⟩ | ⟨⟨hq2, hq3, hq4⟩, ⟨m, q, len, cap, rfl, h⟩⟩)) | (refine stC3_W17 ?_; rintro _ w ⟨(⟨rfl, hb⟩ | ⟨rfl, hb⟩), h⟩) | (refine stC4_W17 ?_; rintro v w h) | (refine stC5_W17 ?_; rintro _ w ⟨bx, rfl, h⟩) | (refine stD6_W17 ?_; rintro _ w ⟨rfl, h⟩ <;> refine nowa ?_) | (refine p_cmp rfl rfl rfl rfl (fun hc => ?_) (fun hc => ?_) <;> simp only [cmpProp] at hc) | (refine r_cmp rfl rfl rfl rfl rfl (fun hc => ?_) (fun hc => ?_) <;> simp only [cmpProp] at hc) | (refine x_drawn rfl ?_; have h := h.drew) | refine x_drawn rfl ?_ | fail)
          obtain ⟨ea, el, ec, rfl, hel, _⟩ := ownS_slice h .here
          rw [ints_length, Nat.mul_one] at hel
          have hell : el ≤ 100000 := by
            rw [← hel]
            unfold IdxM.entries
            have h1 := List.length_filter_le nz (x.words k)
            have h2 : (x.words k).length = (x.chain k).length * 7 := by unfold IdxM.words; rw [List.length_map, slotsG_length]
            have h3 : (x.chain k).length ≤ x.all + 1 := chainG_length x.lnk (x.all + 1) k
            omega
          have hst0 : (fd = false ∧ wv = 0 ∧ (bb < k → ∀ w ∈ x.entries bb, (unpackE w).1.tag ≠ tagZ a.h) ∧ (bb = k → ∀ (c : Nat) (z : Int), c < 0 → (x.entries bb)[c]? = some z → (unpackE z).1.tag ≠ tagZ a.h)) ∨ (fd = true ∧ bb ≤ k ∧ wv ∈ x.entries bb ∧ (unpackE wv).1.tag = tagZ a.h) := by
            rcases hi1 with ⟨q1, q2, q3⟩ | ⟨q1, q2, q3, q4⟩
            · exact .inl ⟨q1, q2, q3, fun _ c z hc => absurd hc (Nat.not_lt_zero _)⟩
            · exact .inr ⟨q1, by omega, q3, q4⟩
          refine x_keep [0, 2, 7, 9, 21, 22, 23, 24, 25, 26] rfl ?_
          refine x_loop_inv (fun lm le w => ∃ (j : Nat), ∃ (fd : Bool), ∃ (wv : Int), lm = el - j ∧ j ≤ el ∧ ((fd = false ∧ wv = 0 ∧ (bb < k → ∀ w ∈ x.entries bb, (unpackE w).1.tag ≠ tagZ a.h) ∧ (bb = k → ∀ (c : Nat) (z : Int), c < j → (x.entries bb)[c]? = some z → (unpackE z).1.tag ≠ tagZ a.h)) ∨ (fd = true ∧ bb ≤ k ∧ wv ∈ x.entries bb ∧ (unpackE wv).1.tag = tagZ a.h)) ∧ le = [(0, .int .i64 n), (2, .slice (some ⟨pa, po, none⟩) l2 c2), (7, .pointer (some ⟨b, 0, none⟩)), (9, .pointer (some ⟨m, 0, none⟩)), (21, .int .i64 i), (22, .int .u64 wv), (23, .bool fd), (24, .int .i64 k), (25, .slice ea el ec), (26, .int .i64 j)] ∧ Sat S w (ownS T.uint64 1 (.slice ea el ec) (ints .u64 (x.entries k)) :: pt b (.cells (idxC (x) c d) T.index_Index (0, 0)) :: isRow c (x).row :: isRow d (x).tk :: pt m (.cells (refC (x) (.slice (some ⟨q, 0, none⟩) len cap)) T.haycroftref17_Index (0, 0)) :: ownS T.arr_8_uint64 8 (.slice (some ⟨q, 0, none⟩) len cap) (ints .u64 (x).row.ws) :: G)) (el) ⟨0, fd, wv, rfl, by omega, hst0, rfl, h.pm6⟩ ?_
          clear h
          rintro lm le w ⟨j, fd, wv, rfl, hi0, hi1, rfl, h⟩ ih3
          by_cases hj : j < el
          · obtain ⟨u, hu⟩ := has_elem (show j < (x.entries k).length by omega)
            obtain ⟨_, _, u0, u1⟩ := hew u (List.mem_of_getElem? hu)
            have hgu : (x.entries k).getD j 0 = u := by rw [List.getD_eq_getElem?_getD, hu]; rfl
            obtain ⟨pe, rfl⟩ := ownS_addr (E := T.uint64) h .here (by omega)
            by_cases hmt : k = bb ∧ (unpackE u).1.tag = a.h / 1125899906842624
            · obtain ⟨rfl, htg⟩ := hmt
              repeat' (first | (refine gL ?_; refine p_val rfl (g_ldI (i := j) rfl (ownS_rd h (by repeat first | exact .here | apply Has.there)) (by omega) (by omega)) ?_; rw [hgu]) | (refine gLR ?_; refine r_old rfl rfl rfl h (fun G w h => g_ldF (f := 1) (u := .int .u64 a.h) act17C_len rfl (hA G w h) ha rfl (by omega)) ?_) | refine stP ?_ | (refine stC0_W17 ?_; rintro _ w ⟨rfl, h⟩) | (refine stC1_W17 ?_; rintro _ w (⟨hq1, rfl, h⟩ | ⟨⟨hq2, hq3, hq4⟩, ⟨b, c, d, rfl, h⟩⟩)) | (refine stC2_W17 ?_; rintro _ w (⟨hq1, rfl, h⟩ | ⟨⟨hq2, hq3, hq4⟩, ⟨m, q, len, cap, rfl, h⟩⟩)) | (refine stC3_W17 ?_; rintro _ w ⟨(⟨rfl, hb⟩ | ⟨rfl, hb⟩), h⟩) | (refine stC4_W17 ?_; rintro v w h) | (refine stC5_W17 ?_; rintro _ w ⟨bx, rfl, h⟩) | (refine stD6_W17 ?_; rintro _ w ⟨rfl, h⟩ <;> refine nowa ?_) | (refine p_cmp rfl rfl rfl rfl (fun hc => ?_) (fun hc => ?_) <;> simp only [cmpProp] at hc) | (refine r_cmp rfl rfl rfl rfl rfl (fun hc => ?_) (fun hc => ?_) <;> simp only [cmpProp] at hc) | (refine x_drawn rfl ?_; have h := h.drew) | refine x_drawn rfl ?_ | fail)
              exact x_keep [0, 2, 7, 9, 21, 22, 23, 24, 25, 26] rfl (ih3 _ _ _ (by omega) ⟨j + 1, true, u, rfl, by omega, .inr ⟨rfl, Nat.le_refl _, List.mem_of_getElem? hu, htg⟩, rfl, h.pm6⟩)
            · have hst1 : (fd = false ∧ wv = 0 ∧ (bb < k → ∀ w ∈ x.entries bb, (unpackE w).1.tag ≠ tagZ a.h) ∧ (bb = k → ∀ (c : Nat) (z : Int), c < j + 1 → (x.entries bb)[c]? = some z → (unpackE z).1.tag ≠ tagZ a.h)) ∨ (fd = true ∧ bb ≤ k ∧ wv ∈ x.entries bb ∧ (unpackE wv).1.tag = tagZ a.h) := by
                rcases hi1 with ⟨q1, q2, q3, q4⟩ | hq
                · refine .inl ⟨q1, q2, q3, fun hbk c z hc hz => ?_⟩
                  rcases Nat.lt_or_ge c j with hcj | hcj
                  · exact q4 hbk c z hcj hz
                  · obtain rfl : c = j := by omega
                    subst hbk
                    rw [hu] at hz
                    cases hz
                    exact fun e => hmt ⟨rfl, e⟩
                · exact .inr hq
              repeat' (first | (refine gL ?_; refine p_val rfl (g_ldI (i := j) rfl (ownS_rd h (by repeat first | exact .here | apply Has.there)) (by omega) (by omega)) ?_; rw [hgu]) | (refine gLR ?_; refine r_old rfl rfl rfl h (fun G w h => g_ldF (f := 1) (u := .int .u64 a.h) act17C_len rfl (hA G w h) ha rfl (by omega)) ?_) | refine stP ?_ | (refine stC0_W17 ?_; rintro _ w ⟨rfl, h⟩) | (refine stC1_W17 ?_; rintro _ w (⟨hq1, rfl, h⟩ | ⟨⟨hq2, hq3, hq4⟩, ⟨b, c, d, rfl, h⟩⟩)) | (refine stC2_W17 ?_; rintro _ w (⟨hq1, rfl, h⟩ | ⟨⟨hq2, hq3, hq4⟩, ⟨m, q, len, cap, rfl, h⟩⟩)) | (refine stC3_W17 ?_; rintro _ w ⟨(⟨rfl, hb⟩ | ⟨rfl, hb⟩), h⟩) | (refine stC4_W17 ?_; rintro v w h) | (refine stC5_W17 ?_; rintro _ w ⟨bx, rfl, h⟩) | (refine stD6_W17 ?_; rintro _ w ⟨rfl, h⟩ <;> refine nowa ?_) | (refine p_cmp rfl rfl rfl rfl (fun hc => ?_) (fun hc => ?_) <;> simp only [cmpProp] at hc) | (refine r_cmp rfl rfl rfl rfl rfl (fun hc => ?_) (fun hc => ?_) <;> simp only [cmpProp] at hc) | (refine x_drawn rfl ?_; have h := h.drew) | refine x_drawn rfl ?_ | fail)
              all_goals first | (exfalso; exact hmt ⟨by omega, by omega⟩) | exact x_keep [0, 2, 7, 9, 21, 22, 23, 24, 25, 26] rfl (ih3 _ _ _ (by omega) ⟨j + 1, fd, wv, rfl, by omega, hst1, rfl, h.pm6⟩)
          · obtain rfl : j = el := by omega
            have hst2 : (fd = false ∧ wv = 0 ∧ (bb < k + 1 → ∀ w ∈ x.entries bb, (unpackE w).1.tag ≠ tagZ a.h)) ∨ (fd = true ∧ bb < k + 1 ∧ wv ∈ x.entries bb ∧ (unpackE wv).1.tag = tagZ a.h) := by
              rcases hi1 with ⟨q1, q2, q3, q4⟩ | ⟨q1, q2, q3, q4⟩
              · refine .inl ⟨q1, q2, fun hbk w hw => ?_⟩
                rcases Nat.lt_or_ge bb k with hlt | hge
                · exact q3 hlt w hw
                · obtain rfl : bb = k := by omega
                  obtain ⟨c, hc⟩ := List.getElem?_of_mem hw
                  have := (List.getElem?_eq_some_iff.1 hc).1
                  exact q4 rfl c w (by omega) hc
              · exact .inr ⟨q1, by omega, q3, q4⟩
            repeat' (first | refine stPs ?_ | (refine stC0_W17 ?_; rintro _ w ⟨rfl, h⟩) | (refine stC1_W17 ?_; rintro _ w (⟨hq1, rfl, h⟩ | ⟨⟨hq2, hq3, hq4⟩, ⟨b, c, d, rfl, h⟩⟩)) | (refine stC2_W17 ?_; rintro _ w (⟨hq1, rfl, h⟩ | ⟨⟨hq2, hq3, hq4⟩, ⟨m, q, len, cap, rfl, h⟩⟩)) | (refine stC3_W17 ?_; rintro _ w ⟨(⟨rfl, hb⟩ | ⟨rfl, hb⟩), h⟩) | (refine stC4_W17 ?_; rintro v w h) | (refine stC5_W17 ?_; rintro _ w ⟨bx, rfl, h⟩) | (refine stD6_W17 ?_; rintro _ w ⟨rfl, h⟩ <;> refine nowa ?_) | (refine p_cmp rfl rfl rfl rfl (fun hc => ?_) (fun hc => ?_) <;> simp only [cmpProp] at hc) | (refine r_cmp rfl rfl rfl rfl rfl (fun hc => ?_) (fun hc => ?_) <;> simp only [cmpProp] at hc) | (refine x_drawn rfl ?_; have h := h.drew) | refine x_drawn rfl ?_ | fail)
            exact x_keep [0, 2, 7, 9, 21, 22, 23, 24] rfl (ih2 _ _ _ (by omega) ⟨k + 1, fd, wv, rfl, by omega, hst2, rfl, h.pm5⟩)
        · obtain rfl : k = x.nb := by omega
          obtain ⟨hpw, hew⟩ := forest_entries hF hbb
          have hfin : ((lookV x a.h).kind = 1 ∧ fd = true ∧ (lookV x a.h).word = wv) ∨ ((lookV x a.h).kind ≠ 1 ∧ fd = false ∧ (lookV x a.h).word = wv) := by
            rcases hlk with ⟨c1, c2, c3⟩ | ⟨c1, c2, c3⟩ <;> rcases hi1 with ⟨q1, q2, q3⟩ | ⟨q1, q2, q3, q4⟩
            · exact absurd c3 (q3 hbb _ c2)
            · exact .inl ⟨c1, q1, pair_tag hpw c2 q3 (c3.trans q4.symm)⟩
            · exact .inr ⟨c1, q1, by rw [c2, q2]⟩
            · exact absurd q4 (c3 _ q3)
          rcases hfin with ⟨c1, rfl, c3⟩ | ⟨c1, rfl, c3⟩
          all_goals
            repeat' (first | (refine gL ?_; refine p_val rfl (g_ldF (f := 1) (u := .int .u64 a.h) act17C_len rfl (hA _ _ h) ha rfl (by omega)) ?_) | refine stP ?_ | (refine stC0_W17 ?_; rintro _ w ⟨rfl, h⟩) | (refine stC1_W17 ?_; rintro _ w (⟨hq1, rfl, h⟩ | ⟨⟨hq2, hq3, hq4⟩, ⟨b, c, d, rfl, h⟩⟩)) | (refine stC2_W17 ?_; rintro _ w (⟨hq1, rfl, h⟩ | ⟨⟨hq2, hq3, hq4⟩, ⟨m, q, len, cap, rfl, h⟩⟩)) | (refine stC3_W17 ?_; rintro _ w ⟨(⟨rfl, hb⟩ | ⟨rfl, hb⟩), h⟩) | (refine stC4_W17 ?_; rintro v w h) | (refine stC5_W17 ?_; rintro _ w ⟨bx, rfl, h⟩) | (refine stD6_W17 ?_; rintro _ w ⟨rfl, h⟩ <;> refine nowa ?_) | (refine p_cmp rfl rfl rfl rfl (fun hc => ?_) (fun hc => ?_) <;> simp only [cmpProp] at hc) | (refine r_cmp rfl rfl rfl rfl rfl (fun hc => ?_) (fun hc => ?_) <;> simp only [cmpProp] at hc) | (refine x_drawn rfl ?_; have h := h.drew) | refine x_drawn rfl ?_ | fail)
            exact x_keep [0, 2, 7, 9, 21] rfl (ih _ _ _ (by omega) ⟨i + 1, rfl, by omega, by omega, rfl, h.pm5⟩)
      · repeat' (first | refine stPs ?_ | (refine stC0_W17 ?_; rintro _ w ⟨rfl, h⟩) | (refine stC1_W17 ?_; rintro _ w (⟨hq1, rfl, h⟩ | ⟨⟨hq2, hq3, hq4⟩, ⟨b, c, d, rfl, h⟩⟩)) | (refine stC2_W17 ?_; rintro _ w (⟨hq1, rfl, h⟩ | ⟨⟨hq2, hq3, hq4⟩, ⟨m, q, len, cap, rfl, h⟩⟩)) | (refine stC3_W17 ?_; rintro _ w ⟨(⟨rfl, hb⟩ | ⟨rfl, hb⟩), h⟩) | (refine stC4_W17 ?_; rintro v w h) | (refine stC5_W17 ?_; rintro _ w ⟨bx, rfl, h⟩) | (refine stD6_W17 ?_; rintro _ w ⟨rfl, h⟩ <;> refine nowa ?_) | (refine p_cmp rfl rfl rfl rfl (fun hc => ?_) (fun hc => ?_) <;> simp only [cmpProp] at hc) | (refine r_cmp rfl rfl rfl rfl rfl (fun hc => ?_) (fun hc => ?_) <;> simp only [cmpProp] at hc) | (refine x_drawn rfl ?_; have h := h.drew) | refine x_drawn rfl ?_ | fail)
        all_goals first | (exfalso; omega) | exact x_ret' is_law17_IndexOnce rfl ⟨rfl, h.nil⟩
end
theorem IndexOnce_law (a0 a1 : Int) (a2 : Option Addr) (len2 cap2 : Nat) (W : World) (_w0 : (Lit.int .i64 a0).wf = true) (_w1 : (Lit.int .i64 a1).wf = true) (w2 : Arg W (.sl (.st (.pair (.int .i64) (.pair (.int .u64) (.pair (.int .i64) (.pair (.int .u64) (.pair .bool (.pair (.int .u64) (.pair (.int .i64) (.pair (.int .i64) .unit)))))))))) [.slice a2 len2 cap2]) :
    Ret Try.prog F.law17_IndexOnce #[.int .i64 a0, .int .i64 a1, .slice a2 len2 cap2] W (fun v w' => v = .bool true ∧ Sat ⟨W.heap.size, W⟩ w' []) := by
  obtain ⟨a, len, cap, els, he, _, _, hr, hall⟩ := w2
  simp at he
  obtain ⟨rfl, rfl, rfl⟩ := he
  obtain ⟨l, rfl, _, hl⟩ := list_of (f := act17C) (p := fun x => (0 ≤ x.h ∧ x.h ≤ 18446744073709551615) ∧ 0 ≤ x.addr) (fun c hc => arg_act17 (hall c hc))
  exact law17_IndexOnce_spec a0 a1 l (fun G w h => hr.later h) hl (Sat.begin W)
end Go.Proofs.Ytmlkeackapflhaa
