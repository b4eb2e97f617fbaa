/- Layer 33 (grow): the statements GrowFinds and GrowParts. -/
import Derived.Test.YtmlkeackapflhaaHxS
import Derived.Test.YtmlkeackapflhaaP33d
namespace Go.Proofs.Ytmlkeackapflhaa
open Go Go.HX
attribute [local irreducible] Ret XRun XOps XDr XOne Does Gives
set_option maxRecDepth 4000
set_option maxHeartbeats 1000000
theorem stC0_W33 {goal next : Prop} (k : next) (hs : Hid next → goal := by (intro k; (first | (refine gC F.index_New ?_; refine p_call rfl rfl (index_New_spec _ _ h) ?_) | fail); exact k.out)) : goal := hs ⟨k⟩
theorem stC1_W33 {goal next : Prop} (k : next) (hs : Hid next → goal := by (intro k; (first | (refine gC F.ref17_New ?_; refine p_call rfl rfl (ref17_New_spec _ _ h) ?_) | fail); exact k.out)) : goal := hs ⟨k⟩
theorem stC2_W33 {goal next : Prop} (k : next) (hs : Hid next → goal := by (intro k; (first | (refine gC F.index_Index_Look ?_; refine p_call rfl rfl (index_Index_Look_nil _ h) ?_) | (refine gC F.index_Index_Look ?_; refine p_call rfl rfl (index_Index_Look_spec _ ?_ ?_ ?_ (h.rf2)) ?_; iterate 3 (first | assumption | omega | (simp only []; omega) | decide)) | (refine gC F.index_Index_Drop ?_; refine p_call rfl rfl (index_Index_Drop_nil h) ?_) | (refine gC F.index_Index_Drop ?_; refine p_call rfl rfl (index_Index_Drop_spec ?_ ?_ (h.rf3)) ?_; iterate 2 (first | assumption | omega | (simp only []; omega) | decide)) | (refine gC F.index_Index_Spare ?_; refine p_call rfl rfl (index_Index_Spare_nil h) ?_) | (refine gC F.index_Index_Spare ?_; refine p_call rfl rfl (index_Index_Spare_spec ?_ (h.rf3)) ?_; iterate 1 (first | assumption | omega | (simp only []; omega) | decide)) | (refine gC F.ref17_Index_Spare ?_; refine p_call rfl rfl (ref17_Index_Spare_spec ?_ (h.rf2)) ?_; iterate 1 (first | assumption | omega | (simp only []; omega) | decide)) | (refine gC F.index_Index_Link ?_; refine p_call rfl rfl (index_Index_Link_nil _ _ h) ?_) | (refine gC F.index_Index_Link ?_; refine p_call rfl rfl (index_Index_Link_spec _ _ ?_ (h.rf3)) ?_; iterate 1 (first | assumption | omega | (simp only []; omega) | decide)) | (refine gC F.ref17_Index_Link ?_; refine p_call rfl rfl (ref17_Index_Link_spec _ _ ?_ ?_ (h.rf2)) ?_; iterate 2 (first | assumption | omega | (simp only []; omega) | decide)) | (refine gS ?_; (first | refine p_do rfl (d_stwL rfl rfl rfl rfl rfl (h.pick (by repeat first | exact .here | apply Has.there)) (by first | (dsimp only [Value.cells]; done) | exact rfl)) ?_ | refine p_do rfl (d_stL rfl rfl rfl (h.pick (by repeat first | exact .here | apply Has.there)) (by first | exact of_decide_eq_true rfl | simp) (by first | (dsimp only [List.set]; done) | exact rfl)) ?_)) | (refine gC F.law33_awake ?_; refine p_call rfl rfl (law33_awake_spec h) ?_) | (refine gC F.grow_Needs ?_; refine p_call rfl rfl (grow_Needs_spec ?_ ?_ (h.rf3)) ?_; iterate 2 (first | assumption | omega | (simp only []; omega) | decide)) | (refine gC F.grow_Needs ?_; refine p_call rfl rfl (grow_Needs_nil _ h) ?_) | (refine gC F.grow_Twice ?_; refine p_call rfl rfl (grow_Twice_nil _ _ h) ?_) | (refine gC F.ref33_Addr ?_; refine p_call rfl rfl (ref33_Addr_spec _ ?_ ?_ ?_ (h.rf2)) ?_; iterate 3 (first | assumption | omega | (simp only []; omega) | decide)) | (refine gC F.grow_Addr ?_; refine p_call rfl rfl (grow_Addr_spec _ ?_ ?_ ?_ (h.rf3)) ?_; iterate 3 (first | assumption | omega | (simp only []; omega) | decide)) | (refine gC F.grow_Addr ?_; refine p_call rfl rfl (grow_Addr_nil _ h) ?_) | fail); exact k.out)) : goal := hs ⟨k⟩
theorem stC3_W33 {goal next : Prop} (k : next) (hs : Hid next → goal := by (intro k; (first | (refine gN ?_; refine p_do rfl (d_newL h (by first | (dsimp only [Value.cells]; done) | exact rfl)) ?_) | fail); exact k.out)) : goal := hs ⟨k⟩
theorem stD4_W33 {goal next : Prop} (k : next) (hs : Hid next → goal := by (intro k; (first | (refine gCR F.index_Index_Turn ?_; refine r_call rfl rfl rfl (index_Index_Turn_nil _ _ _ h) ?_) | (refine gCR F.index_Index_Turn ?_; refine r_call rfl rfl rfl (index_Index_Turn_spec _ _ _ ?_ ?_ ?_ (h.rf3)) ?_; iterate 3 (first | assumption | omega | (simp only []; omega) | decide)) | (refine gCR F.ref17_Index_Turn ?_; refine r_call rfl rfl rfl (ref17_Index_Turn_spec _ _ _ ?_ ?_ ?_ ?_ ?_ (h.rf2)) ?_; iterate 5 (first | assumption | omega | (simp only []; omega) | decide)) | (refine gCR F.index_Index_Claim ?_; refine r_call rfl rfl rfl (index_Index_Claim_nil _ _ h) ?_) | (refine gCR F.index_Index_Claim ?_; refine r_call rfl rfl rfl (index_Index_Claim_spec _ _ ?_ ?_ (h.rf3)) ?_; iterate 2 (first | assumption | omega | (simp only []; omega) | decide)) | (refine gCR F.ref17_Index_Claim ?_; refine r_call rfl rfl rfl (ref17_Index_Claim_spec _ _ ?_ ?_ ?_ ?_ (h.rf2)) ?_; iterate 4 (first | assumption | omega | (simp only []; omega) | decide)) | fail); exact k.out)) : goal := hs ⟨k⟩
theorem stC5_W33 {goal next : Prop} (k : next) (hs : Hid next → goal := by (intro k; (first | (refine gC F.grow_Twice ?_; refine p_call rfl rfl (grow_Twice_spec ?_ ?_ ?_ ?_ (h.rf3)) ?_; iterate 4 (first | assumption | omega | (simp only []; omega) | decide)) | fail); exact k.out)) : goal := hs ⟨k⟩
theorem grow_of (x : IdxM) (y a : Int) : ∀ l : LookM, lookV x y = l → growX x y a = if l.kind = 1 then (turnX x l.slot l.word a).2 else if l.kind = 2 then (claimX x l.slot y).2 else if x.sp ≤ x.taken then x else (linkX (spareX x).2 l.bucket (spareX x).1.1).2 := fun l e => by subst e; rfl
section
variable {S : SP} {w : World} {G : List HProp}

set_option maxHeartbeats 16000000 in
theorem law33_begin_spec {v2 : Value} (n s : Int) (l : List Act17) (hA : Old S 8 v2 (rows act17C l)) (hl : ∀ a ∈ l, (0 ≤ a.h ∧ a.h ≤ 18446744073709551615) ∧ 0 ≤ a.addr) (h : Sat S w G) :
    Ret Try.prog F.law33_begin #[.int .i64 n, .int .i64 s, v2] w (fun v w' => (v = .tuple #[.pointer none, .pointer none, .bool false] ∧ Sat S w' G) ∨ ∃ b c d m q len cap x, v = .tuple #[.pointer (some ⟨b, 0, none⟩), .pointer (some ⟨m, 0, none⟩), .bool true] ∧ (∃ Cs, Forest x Cs) ∧ (x.nb : Int) = n ∧ x.nb ≤ 16 ∧ x.sp ≤ 8 ∧ Sat S w' (pt b (.cells (idxC (x) c d) T.index_Index (0, 0)) :: isRow c (x).row :: isRow d (x).tk :: pt m (.cells (refC (x) (.slice (some ⟨q, 0, none⟩) len cap)) T.haycroftref17_Index (0, 0)) :: ownS T.arr_8_uint64 8 (.slice (some ⟨q, 0, none⟩) len cap) (ints .u64 (x).row.ws) :: G)) := by
  obtain ⟨a2, l2, c2, rfl, _⟩ := hA _ w h
  have hlen := (hA _ w h).rlen act17C_len (by decide)
  refine ret_of is_law33_begin rfl ?_
  repeat' (first | (refine gC F.index_New ?_; refine p_call rfl rfl (index_New_spec n s h) ?_; rintro _ w (⟨hx, rfl, h⟩ | ⟨hq, b, c, d, rfl, h⟩)) | (refine gC F.ref17_New ?_; refine p_call rfl rfl (ref17_New_spec n s h) ?_; first | (rintro _ w (⟨hx2, rfl, h⟩ | ⟨hq2, m, q, len, cap, rfl, h⟩) <;> first | exact absurd hq2 hx | exact absurd hq hx2 | skip)) | refine stP ?_ | (refine stC0_W33 ?_; rintro _ w (⟨hq1, rfl, h⟩ | ⟨⟨hq2, hq3, hq4⟩, ⟨b, c, d, rfl, h⟩⟩)) | (refine stC1_W33 ?_; rintro _ w (⟨hq1, rfl, h⟩ | ⟨⟨hq2, hq3, hq4⟩, ⟨m, q, len, cap, rfl, h⟩⟩)) | (refine stC2_W33 ?_; rintro _ w ⟨rfl, h⟩) | (refine stC3_W33 ?_; rintro _ w ⟨bx, rfl, h⟩) | (refine stD4_W33 ?_; rintro _ w ⟨rfl, h⟩ <;> refine nowa ?_) | (refine p_cmp rfl rfl rfl rfl (fun hc => ?_) (fun hc => ?_) <;> simp only [cmpProp] at hc) | (refine r_cmp rfl rfl rfl rfl rfl (fun hc => ?_) (fun hc => ?_) <;> simp only [cmpProp] at hc) | (refine x_drawn rfl ?_; have h := h.drew) | refine x_drawn rfl ?_ | fail)
  all_goals first | exact x_ret' is_law33_begin rfl (.inl ⟨rfl, h⟩) | skip
  obtain ⟨Cs0, hF0⟩ := forest_zero hq.1 hq.2.1 hq.2.2
  have hn1 := mayN_le hq.1
  have hnb0 : ((idx0 n s).nb : Int) = n := by unfold idx0; simp only; omega
  have hsp0 : ((idx0 n s).sp : Int) = s := by unfold idx0; simp only; omega
  refine x_keep [2, 9, 11, 13] rfl ?_
  refine x_loop_inv (fun lm le w => ∃ (i : Nat), ∃ (x : IdxM), ∃ (q len cap : Nat), lm = l2 - i ∧ i ≤ l2 ∧ i ≤ 100 ∧ (∃ Cs, Forest x Cs) ∧ (x.nb : Int) = n ∧ (x.sp : Int) = s ∧ le = [(2, .slice a2 l2 c2), (9, .pointer (some ⟨b, 0, none⟩)), (11, .pointer (some ⟨m, 0, none⟩)), (13, .int .i64 i)] ∧ Sat S w (pt b (.cells (idxC (x) c d) T.index_Index (0, 0)) :: isRow c (x).row :: isRow d (x).tk :: pt m (.cells (refC (x) (.slice (some ⟨q, 0, none⟩) len cap)) T.haycroftref17_Index (0, 0)) :: ownS T.arr_8_uint64 8 (.slice (some ⟨q, 0, none⟩) len cap) (ints .u64 (x).row.ws) :: G)) (l2) ⟨0, idx0 n s, q, len, cap, rfl, by omega, by omega, ⟨Cs0, hF0⟩, hnb0, hsp0, rfl, h.pm5⟩ ?_
  clear h
  rintro lm le w ⟨i, x, q, len, cap, rfl, hi0, hi1, hi2, hi3, hi4, rfl, h⟩ ih
  by_cases hi : i < l2 ∧ i < 100
  · obtain ⟨a, ha⟩ := has_elem (show i < l.length by omega)
    obtain ⟨pa, po, rfl⟩ := (hA _ w h).addr (by omega)
    obtain ⟨⟨ah0, ah1⟩, aa0⟩ := hl a (List.mem_of_getElem? ha)
    obtain ⟨Cs, hF⟩ := hi2
    have hok := hF.ok
    have hio := hok.ok
    have hlb := look_bnd hok a.h
    have hlk := look_kinds x a.h
    obtain ⟨lk, hlv⟩ : ∃ lk, lookV x a.h = lk := ⟨_, rfl⟩
    have hE := grow_of x a.h a.addr lk hlv
    have hG := forest_grow hF (a := a.addr) ah0 ah1 aa0
    obtain ⟨hg1, hg2⟩ := grow_nb x a.h a.addr
    rw [hlv] at hlb hlk
    by_cases hk5 : a.kind = 5
    · have hcp := laid_cap hF
      obtain ⟨Cs2, hF2, _⟩ := forest_drop hF
      repeat' (first | (refine gL ?_; refine p_val rfl (g_ldF (f := 1) (u := .int .u64 a.h) act17C_len rfl (hA _ _ h) ha rfl (by omega)) ?_) | (refine gL ?_; refine p_val rfl (g_ldF (f := 0) (u := .int .i64 a.kind) act17C_len rfl (hA _ _ h) ha rfl (by omega)) ?_) | (refine gC F.index_Index_Look ?_; refine p_call rfl rfl (index_Index_Look_spec _ ah0 ah1 hio (h.rf2)) ?_; rw [hlv]; rintro _ w ⟨rfl, h⟩) | (refine gC F.index_Index_Drop ?_; refine p_call rfl rfl (index_Index_Drop_spec hio hcp.2 (h.rf3)) ?_; rintro _ w ⟨rfl, h⟩) | (refine gC F.ref17_Index_Drop ?_; refine p_call rfl rfl (ref17_Index_Drop_spec hok hcp.2 hF.ent (h.rf2)) ?_; rintro _ w ⟨rfl, q, len, cap, h⟩) | refine stP ?_ | (refine stC0_W33 ?_; rintro _ w (⟨hq1, rfl, h⟩ | ⟨⟨hq2, hq3, hq4⟩, ⟨b, c, d, rfl, h⟩⟩)) | (refine stC1_W33 ?_; rintro _ w (⟨hq1, rfl, h⟩ | ⟨⟨hq2, hq3, hq4⟩, ⟨m, q, len, cap, rfl, h⟩⟩)) | (refine stC2_W33 ?_; rintro _ w ⟨rfl, h⟩) | (refine stC3_W33 ?_; rintro _ w ⟨bx, rfl, h⟩) | (refine stD4_W33 ?_; rintro _ w ⟨rfl, h⟩ <;> refine nowa ?_) | (refine p_cmp rfl rfl rfl rfl (fun hc => ?_) (fun hc => ?_) <;> simp only [cmpProp] at hc) | (refine r_cmp rfl rfl rfl rfl rfl (fun hc => ?_) (fun hc => ?_) <;> simp only [cmpProp] at hc) | (refine x_drawn rfl ?_; have h := h.drew) | refine x_drawn rfl ?_ | fail)
      exact x_keep [2, 9, 11, 13] rfl (ih _ _ _ (by omega) ⟨i + 1, x.drop, q, len, cap, rfl, by omega, by omega, ⟨Cs2, hF2⟩, hi3, hi4, rfl, h.pm5⟩)
    · rcases hlk with hk | hk | hk
      · rw [if_pos hk] at hE
        obtain ⟨⟨⟨qb, qe⟩, qx⟩, hq⟩ : ∃ r, turnX x lk.slot lk.word a.addr = r := ⟨_, rfl⟩
        rw [hq] at hE
        simp only at hE
        rw [hE] at hG hg1 hg2
        repeat' (first | (refine gL ?_; refine p_val rfl (g_ldF (f := 1) (u := .int .u64 a.h) act17C_len rfl (hA _ _ h) ha rfl (by omega)) ?_) | (refine gL ?_; refine p_val rfl (g_ldF (f := 0) (u := .int .i64 a.kind) act17C_len rfl (hA _ _ h) ha rfl (by omega)) ?_) | (refine gLR ?_; refine r_old rfl rfl rfl h (fun G w h => g_ldF (f := 5) (u := .int .u64 a.addr) act17C_len rfl (hA G w h) ha rfl (by omega)) ?_) | (refine gC F.index_Index_Look ?_; refine p_call rfl rfl (index_Index_Look_spec _ ah0 ah1 hio (h.rf2)) ?_; rw [hlv]; rintro _ w ⟨rfl, h⟩) | (refine gCR F.index_Index_Turn ?_; refine r_call rfl rfl rfl (index_Index_Turn_spec lk.slot lk.word a.addr (by omega) (by omega) aa0 (h.rf3)) ?_; rw [hq]; rintro _ w ⟨rfl, h⟩; refine nowa ?_) | (refine gCR F.ref17_Index_Turn ?_; refine r_call rfl rfl rfl (ref17_Index_Turn_spec lk.slot lk.word a.addr hok (by omega) (by omega) (by omega) aa0 (h.rf2)) ?_; rw [hq]; rintro _ w ⟨rfl, h⟩; refine nowa ?_) | refine stP ?_ | (refine stC0_W33 ?_; rintro _ w (⟨hq1, rfl, h⟩ | ⟨⟨hq2, hq3, hq4⟩, ⟨b, c, d, rfl, h⟩⟩)) | (refine stC1_W33 ?_; rintro _ w (⟨hq1, rfl, h⟩ | ⟨⟨hq2, hq3, hq4⟩, ⟨m, q, len, cap, rfl, h⟩⟩)) | (refine stC2_W33 ?_; rintro _ w ⟨rfl, h⟩) | (refine stC3_W33 ?_; rintro _ w ⟨bx, rfl, h⟩) | (refine stD4_W33 ?_; rintro _ w ⟨rfl, h⟩ <;> refine nowa ?_) | (refine p_cmp rfl rfl rfl rfl (fun hc => ?_) (fun hc => ?_) <;> simp only [cmpProp] at hc) | (refine r_cmp rfl rfl rfl rfl rfl (fun hc => ?_) (fun hc => ?_) <;> simp only [cmpProp] at hc) | (refine x_drawn rfl ?_; have h := h.drew) | refine x_drawn rfl ?_ | fail)
        exact x_keep [2, 9, 11, 13] rfl (ih _ _ _ (by omega) ⟨i + 1, qx, q, len, cap, rfl, by omega, by omega, hG, by omega, by omega, rfl, h.pm5⟩)
      · rw [if_neg (by omega), if_pos hk] at hE
        obtain ⟨⟨⟨qb, qe⟩, qx⟩, hq⟩ : ∃ r, claimX x lk.slot a.h = r := ⟨_, rfl⟩
        rw [hq] at hE
        simp only at hE
        rw [hE] at hG hg1 hg2
        repeat' (first | (refine gL ?_; refine p_val rfl (g_ldF (f := 1) (u := .int .u64 a.h) act17C_len rfl (hA _ _ h) ha rfl (by omega)) ?_) | (refine gL ?_; refine p_val rfl (g_ldF (f := 0) (u := .int .i64 a.kind) act17C_len rfl (hA _ _ h) ha rfl (by omega)) ?_) | (refine gLR ?_; refine r_old rfl rfl rfl h (fun G w h => g_ldF (f := 1) (u := .int .u64 a.h) act17C_len rfl (hA G w h) ha rfl (by omega)) ?_) | (refine gC F.index_Index_Look ?_; refine p_call rfl rfl (index_Index_Look_spec _ ah0 ah1 hio (h.rf2)) ?_; rw [hlv]; rintro _ w ⟨rfl, h⟩) | (refine gCR F.index_Index_Claim ?_; refine r_call rfl rfl rfl (index_Index_Claim_spec lk.slot a.h ah0 ah1 (h.rf3)) ?_; rw [hq]; rintro _ w ⟨rfl, h⟩; refine nowa ?_) | (refine gCR F.ref17_Index_Claim ?_; refine r_call rfl rfl rfl (ref17_Index_Claim_spec lk.slot a.h hok (by omega) ah0 ah1 (h.rf2)) ?_; rw [hq]; rintro _ w ⟨rfl, h⟩; refine nowa ?_) | refine stP ?_ | (refine stC0_W33 ?_; rintro _ w (⟨hq1, rfl, h⟩ | ⟨⟨hq2, hq3, hq4⟩, ⟨b, c, d, rfl, h⟩⟩)) | (refine stC1_W33 ?_; rintro _ w (⟨hq1, rfl, h⟩ | ⟨⟨hq2, hq3, hq4⟩, ⟨m, q, len, cap, rfl, h⟩⟩)) | (refine stC2_W33 ?_; rintro _ w ⟨rfl, h⟩) | (refine stC3_W33 ?_; rintro _ w ⟨bx, rfl, h⟩) | (refine stD4_W33 ?_; rintro _ w ⟨rfl, h⟩ <;> refine nowa ?_) | (refine p_cmp rfl rfl rfl rfl (fun hc => ?_) (fun hc => ?_) <;> simp only [cmpProp] at hc) | (refine r_cmp rfl rfl rfl rfl rfl (fun hc => ?_) (fun hc => ?_) <;> simp only [cmpProp] at hc) | (refine x_drawn rfl ?_; have h := h.drew) | refine x_drawn rfl ?_ | fail)
        exact x_keep [2, 9, 11, 13] rfl (ih _ _ _ (by omega) ⟨i + 1, qx, q, len, cap, rfl, by omega, by omega, hG, by omega, by omega, rfl, h.pm5⟩)
      · rw [if_neg (by omega), if_neg (by omega)] at hE
        have hso := hio.spOk
        by_cases hf : x.sp ≤ x.taken
        · rw [if_pos hf] at hE
          have hsq : spareX x = ((0, 9), x) := by rw [spareX, if_pos hf]
          repeat' (first | (refine gL ?_; refine p_val rfl (g_ldF (f := 1) (u := .int .u64 a.h) act17C_len rfl (hA _ _ h) ha rfl (by omega)) ?_) | (refine gL ?_; refine p_val rfl (g_ldF (f := 0) (u := .int .i64 a.kind) act17C_len rfl (hA _ _ h) ha rfl (by omega)) ?_) | (refine gC F.index_Index_Look ?_; refine p_call rfl rfl (index_Index_Look_spec _ ah0 ah1 hio (h.rf2)) ?_; rw [hlv]; rintro _ w ⟨rfl, h⟩) | (refine gC F.index_Index_Spare ?_; refine p_call rfl rfl (index_Index_Spare_spec hso (h.rf3)) ?_; rw [hsq]; rintro _ w ⟨rfl, h⟩) | (refine gC F.ref17_Index_Spare ?_; refine p_call rfl rfl (ref17_Index_Spare_spec hok (h.rf2)) ?_; rw [hsq]; rintro _ w ⟨rfl, h⟩) | refine stP ?_ | (refine stC0_W33 ?_; rintro _ w (⟨hq1, rfl, h⟩ | ⟨⟨hq2, hq3, hq4⟩, ⟨b, c, d, rfl, h⟩⟩)) | (refine stC1_W33 ?_; rintro _ w (⟨hq1, rfl, h⟩ | ⟨⟨hq2, hq3, hq4⟩, ⟨m, q, len, cap, rfl, h⟩⟩)) | (refine stC2_W33 ?_; rintro _ w ⟨rfl, h⟩) | (refine stC3_W33 ?_; rintro _ w ⟨bx, rfl, h⟩) | (refine stD4_W33 ?_; rintro _ w ⟨rfl, h⟩ <;> refine nowa ?_) | (refine p_cmp rfl rfl rfl rfl (fun hc => ?_) (fun hc => ?_) <;> simp only [cmpProp] at hc) | (refine r_cmp rfl rfl rfl rfl rfl (fun hc => ?_) (fun hc => ?_) <;> simp only [cmpProp] at hc) | (refine x_drawn rfl ?_; have h := h.drew) | refine x_drawn rfl ?_ | fail)
          exact x_keep [2, 9, 11, 13] rfl (ih _ _ _ (by omega) ⟨i + 1, x, q, len, cap, rfl, by omega, by omega, ⟨Cs, hF⟩, hi3, hi4, rfl, h.pm5⟩)
        · rw [if_neg hf] at hE
          have hok2 := spare_ok hok hf
          obtain ⟨⟨⟨sa, se⟩, sx⟩, hsq⟩ : ∃ r, spareX x = r := ⟨_, rfl⟩
          have hse : sa = (x.nb : Int) + x.taken ∧ se = 0 := by
            rw [spareX, if_neg hf] at hsq
            cases hsq
            exact ⟨rfl, rfl⟩
          obtain ⟨hsa, rfl⟩ := hse
          rw [hsq] at hok2 hE
          simp only at hok2 hE
          have hio2 := hok2.ok
          obtain ⟨⟨⟨qb, qe⟩, qx⟩, hq⟩ : ∃ r, linkX sx lk.bucket sa = r := ⟨_, rfl⟩
          rw [hq] at hE
          simp only at hE
          rw [hE] at hG hg1 hg2
          repeat' (first | (refine gL ?_; refine p_val rfl (g_ldF (f := 1) (u := .int .u64 a.h) act17C_len rfl (hA _ _ h) ha rfl (by omega)) ?_) | (refine gL ?_; refine p_val rfl (g_ldF (f := 0) (u := .int .i64 a.kind) act17C_len rfl (hA _ _ h) ha rfl (by omega)) ?_) | (refine gC F.index_Index_Look ?_; refine p_call rfl rfl (index_Index_Look_spec _ ah0 ah1 hio (h.rf2)) ?_; rw [hlv]; rintro _ w ⟨rfl, h⟩) | (refine gC F.index_Index_Spare ?_; refine p_call rfl rfl (index_Index_Spare_spec hso (h.rf3)) ?_; rw [hsq]; rintro _ w ⟨rfl, h⟩) | (refine gC F.ref17_Index_Spare ?_; refine p_call rfl rfl (ref17_Index_Spare_spec hok (h.rf2)) ?_; rw [hsq]; rintro _ w ⟨rfl, h⟩) | (refine gC F.index_Index_Link ?_; refine p_call rfl rfl (index_Index_Link_spec (x := sx) lk.bucket sa hio2 (h.rf3)) ?_; rw [hq]; rintro _ w ⟨rfl, h⟩) | (refine gC F.ref17_Index_Link ?_; refine p_call rfl rfl (ref17_Index_Link_spec (x := sx) lk.bucket sa hok2 (by omega) (h.rf2)) ?_; rw [hq]; rintro _ w ⟨rfl, h⟩) | refine stP ?_ | (refine stC0_W33 ?_; rintro _ w (⟨hq1, rfl, h⟩ | ⟨⟨hq2, hq3, hq4⟩, ⟨b, c, d, rfl, h⟩⟩)) | (refine stC1_W33 ?_; rintro _ w (⟨hq1, rfl, h⟩ | ⟨⟨hq2, hq3, hq4⟩, ⟨m, q, len, cap, rfl, h⟩⟩)) | (refine stC2_W33 ?_; rintro _ w ⟨rfl, h⟩) | (refine stC3_W33 ?_; rintro _ w ⟨bx, rfl, h⟩) | (refine stD4_W33 ?_; rintro _ w ⟨rfl, h⟩ <;> refine nowa ?_) | (refine p_cmp rfl rfl rfl rfl (fun hc => ?_) (fun hc => ?_) <;> simp only [cmpProp] at hc) | (refine r_cmp rfl rfl rfl rfl rfl (fun hc => ?_) (fun hc => ?_) <;> simp only [cmpProp] at hc) | (refine x_drawn rfl ?_; have h := h.drew) | refine x_drawn rfl ?_ | fail)
          exact x_keep [2, 9, 11, 13] rfl (ih _ _ _ (by omega) ⟨i + 1, qx, q, len, cap, rfl, by omega, by omega, hG, by omega, by omega, rfl, h.pm5⟩)
  · repeat' (first | refine stPs ?_ | (refine stC0_W33 ?_; rintro _ w (⟨hq1, rfl, h⟩ | ⟨⟨hq2, hq3, hq4⟩, ⟨b, c, d, rfl, h⟩⟩)) | (refine stC1_W33 ?_; rintro _ w (⟨hq1, rfl, h⟩ | ⟨⟨hq2, hq3, hq4⟩, ⟨m, q, len, cap, rfl, h⟩⟩)) | (refine stC2_W33 ?_; rintro _ w ⟨rfl, h⟩) | (refine stC3_W33 ?_; rintro _ w ⟨bx, rfl, h⟩) | (refine stD4_W33 ?_; rintro _ w ⟨rfl, h⟩ <;> refine nowa ?_) | (refine p_cmp rfl rfl rfl rfl (fun hc => ?_) (fun hc => ?_) <;> simp only [cmpProp] at hc) | (refine r_cmp rfl rfl rfl rfl rfl (fun hc => ?_) (fun hc => ?_) <;> simp only [cmpProp] at hc) | (refine x_drawn rfl ?_; have h := h.drew) | refine x_drawn rfl ?_ | fail)
    all_goals first | (exfalso; omega) | exact x_ret' is_law33_begin rfl (.inr ⟨b, c, d, m, q, len, cap, x, rfl, hi2, hi3, by omega, by omega, h⟩)

theorem told_grown {x y : IdxM} {Cs : List (List Nat)} {s : Nat} (hF : Forest x Cs) (h5 : x.nb ≤ 512) (hy : Filled (2 * x.nb) s (puts x x.nb) y) (g : Int) : addrV y g = addrV x g := by
  obtain ⟨_, _, _, _, ht, _⟩ := hy
  rw [← addr_puts hF h5 g, addrV, ht]

set_option maxHeartbeats 8000000 in
theorem law33_GrowFinds_spec {v2 : Value} (n s : Int) (l : List Act17) (g : Int) (hA : Old S 8 v2 (rows act17C l)) (hl : ∀ a ∈ l, (0 ≤ a.h ∧ a.h ≤ 18446744073709551615) ∧ 0 ≤ a.addr) (g0 : 0 ≤ g) (g1 : g ≤ 18446744073709551615) (h : Sat S w G) :
    Ret Try.prog F.law33_GrowFinds #[.int .i64 n, .int .i64 s, v2, .int .u64 g] w (fun v w' => v = .bool true ∧ Sat S w' []) := by
  obtain ⟨a2, l2, c2, rfl, _⟩ := hA _ w h
  have hlen := (hA _ w h).rlen act17C_len (by decide)
  refine ret_of is_law33_GrowFinds rfl ?_
  repeat' (first | (refine gC F.law33_begin ?_; refine p_call rfl rfl (law33_begin_spec n s l hA hl h) ?_; rintro _ w (⟨rfl, h⟩ | ⟨b, c, d, m, q, len, cap, x, rfl, ⟨Cs, hF⟩, rfl, hnb, hsp, h⟩)) | refine stP ?_ | (refine stC2_W33 ?_; rintro _ w ⟨rfl, h⟩) | (refine stC5_W33 ?_; rintro _ w ⟨b2, c2, d2, y, rfl, hq1, h⟩) | (refine p_cmp rfl rfl rfl rfl (fun hc => ?_) (fun hc => ?_) <;> simp only [cmpProp] at hc) | fail)
  · exact x_ret' is_law33_GrowFinds rfl ⟨rfl, h.nil⟩
  have hnl := need_le hF
  have hcap := hF.ch.cap
  refine p_call rfl rfl (grow_Needs_spec hF (by omega) (h.rf3)) ?_
  rintro _ w ⟨rfl, h⟩
  refine p_call rfl rfl (grow_Twice_spec hF (by omega) (Nat.le_refl _) (by omega) (h.rf3)) ?_
  rintro _ w ⟨b2, c2', d2, y, rfl, hy, h⟩
  have hta := told_grown hF (by omega) hy
  obtain ⟨_, _, Ds, hyF, _⟩ := hy
  repeat' (first | refine stPs ?_ | (refine stC2_W33 ?_; rintro _ w ⟨rfl, h⟩) | (refine stC5_W33 ?_; rintro _ w ⟨b2, c2, d2, y, rfl, hq1, h⟩) | (refine p_cmp rfl rfl rfl rfl (fun hc => ?_) (fun hc => ?_) <;> simp only [cmpProp] at hc) | fail)
  refine x_keep [2, 3, 9, 10, 12, 14] rfl ?_
  refine x_loop_inv (fun lm le w => ∃ (i : Nat), ∃ (g : Int), lm = l2 + 1 - i ∧ i ≤ l2 + 1 ∧ i ≤ 101 ∧ 0 ≤ g ∧ g ≤ 18446744073709551615 ∧ le = [(2, .slice a2 l2 c2), (3, .int .u64 g), (9, .pointer (some ⟨b, 0, none⟩)), (10, .pointer (some ⟨m, 0, none⟩)), (12, .pointer (some ⟨b2, 0, none⟩)), (14, .int .i64 i)] ∧ Sat S w (pt b2 (.cells (idxC y c2' d2) T.index_Index (0, 0)) :: isRow c2' y.row :: isRow d2 y.tk :: pt b (.cells (idxC (x) c d) T.index_Index (0, 0)) :: isRow c (x).row :: isRow d (x).tk :: pt m (.cells (refC (x) (.slice (some ⟨q, 0, none⟩) len cap)) T.haycroftref17_Index (0, 0)) :: ownS T.arr_8_uint64 8 (.slice (some ⟨q, 0, none⟩) len cap) (ints .u64 (x).row.ws) :: G)) (l2 + 1) ⟨0, g, rfl, by omega, by omega, g0, g1, rfl, h⟩ ?_
  clear h
  rintro lm le w ⟨i, g, rfl, hi0, hi1, hi2, hi3, rfl, h⟩ ih
  by_cases hi : i ≤ l2 ∧ i ≤ 100
  · by_cases hj : i < l2 ∧ i < 100
    · obtain ⟨a, ha⟩ := has_elem (show i < l.length by omega)
      obtain ⟨pa, po, rfl⟩ := (hA _ w h).addr (by omega)
      obtain ⟨⟨ah0, ah1⟩, _⟩ := hl a (List.mem_of_getElem? ha)
      have hxb : g.toNat ^^^ a.h.toNat < 2 ^ 64 := Nat.xor_lt_two_pow (by omega) (by omega)
      have hx0 : 0 ≤ ((g.toNat ^^^ a.h.toNat : Nat) : Int) := by omega
      have hx1 : ((g.toNat ^^^ a.h.toNat : Nat) : Int) ≤ 18446744073709551615 := by omega
      repeat' (first | (refine gL ?_; refine p_val rfl (g_ldF (f := 1) (u := .int .u64 a.h) act17C_len rfl (hA _ _ h) ha rfl (by omega)) ?_) | (refine gC F.ref33_Addr ?_; refine p_call rfl rfl (ref33_Addr_spec _ hF hx0 hx1 (h.rf2)) ?_; rintro _ w ⟨rfl, h⟩) | (refine gC F.grow_Addr ?_; first | (refine p_call rfl rfl (grow_Addr_spec (b := b) _ hF hx0 hx1 (h.rf3)) ?_; rintro _ w ⟨rfl, h⟩) | (refine p_call rfl rfl (grow_Addr_spec (b := b2) _ hyF hx0 hx1 (h.rf3)) ?_; rw [hta]; rintro _ w ⟨rfl, h⟩)) | refine stP ?_ | (refine stC2_W33 ?_; rintro _ w ⟨rfl, h⟩) | (refine stC5_W33 ?_; rintro _ w ⟨b2, c2, d2, y, rfl, hq1, h⟩) | (refine p_cmp rfl rfl rfl rfl (fun hc => ?_) (fun hc => ?_) <;> simp only [cmpProp] at hc) | fail)
      exact x_keep [2, 3, 9, 10, 12, 14] rfl (ih _ _ _ (by omega) ⟨i + 1, _, rfl, by omega, by omega, hx0, hx1, rfl, h.pm8⟩)
    · repeat' (first | (refine gC F.ref33_Addr ?_; refine p_call rfl rfl (ref33_Addr_spec _ hF hi2 hi3 (h.rf2)) ?_; rintro _ w ⟨rfl, h⟩) | (refine gC F.grow_Addr ?_; first | (refine p_call rfl rfl (grow_Addr_spec (b := b) _ hF hi2 hi3 (h.rf3)) ?_; rintro _ w ⟨rfl, h⟩) | (refine p_call rfl rfl (grow_Addr_spec (b := b2) _ hyF hi2 hi3 (h.rf3)) ?_; rw [hta]; rintro _ w ⟨rfl, h⟩)) | refine stP ?_ | (refine stC2_W33 ?_; rintro _ w ⟨rfl, h⟩) | (refine stC5_W33 ?_; rintro _ w ⟨b2, c2, d2, y, rfl, hq1, h⟩) | (refine p_cmp rfl rfl rfl rfl (fun hc => ?_) (fun hc => ?_) <;> simp only [cmpProp] at hc) | fail)
      all_goals first | (exfalso; omega) | exact x_keep [2, 3, 9, 10, 12, 14] rfl (ih _ _ _ (by omega) ⟨i + 1, _, rfl, by omega, by omega, hi2, hi3, rfl, h.pm8⟩)
  · repeat' (first | refine stPs ?_ | (refine stC2_W33 ?_; rintro _ w ⟨rfl, h⟩) | (refine stC5_W33 ?_; rintro _ w ⟨b2, c2, d2, y, rfl, hq1, h⟩) | (refine p_cmp rfl rfl rfl rfl (fun hc => ?_) (fun hc => ?_) <;> simp only [cmpProp] at hc) | fail)
    all_goals first | (exfalso; omega) | exact x_ret' is_law33_GrowFinds rfl ⟨rfl, h.nil⟩

theorem GrowFinds_law (a0 a1 : Int) (a2 : Option Addr) (len2 cap2 : Nat) (a3 : Int) (W : World) (_w0 : (Lit.int .i64 a0).wf = true) (_w1 : (Lit.int .i64 a1).wf = true) (w2 : Arg W (.sl (.st (.pair (.int .i64) (.pair (.int .u64) (.pair (.int .i64) (.pair (.int .u64) (.pair .bool (.pair (.int .u64) (.pair (.int .i64) (.pair (.int .i64) .unit)))))))))) [.slice a2 len2 cap2]) (w3 : (Lit.int .u64 a3).wf = true) :
    Ret Try.prog F.law33_GrowFinds #[.int .i64 a0, .int .i64 a1, .slice a2 len2 cap2, .int .u64 a3] W (fun v w' => v = .bool true ∧ Sat ⟨W.heap.size, W⟩ w' []) := by
  obtain ⟨a, len, cap, els, he, _, _, hr, hall⟩ := w2
  simp at he
  obtain ⟨rfl, rfl, rfl⟩ := he
  obtain ⟨l, rfl, _, hl⟩ := list_of (f := act17C) (p := fun x => (0 ≤ x.h ∧ x.h ≤ 18446744073709551615) ∧ 0 ≤ x.addr) (fun c hc => arg_act17 (hall c hc))
  exact law33_GrowFinds_spec a0 a1 l a3 (fun G w h => hr.later h) hl (wf_u64 w3).1 (wf_u64 w3).2 (Sat.begin W)
end
end Go.Proofs.Ytmlkeackapflhaa
