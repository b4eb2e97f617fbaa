/- Layer 17 (index): claims, turns, spare buckets, links. -/
import Derived.Test.YtmlkeackapflhaaHxS
import Derived.Test.YtmlkeackapflhaaP17l
namespace Go.Proofs.Ytmlkeackapflhaa
open Go Go.HX
attribute [local irreducible] Ret XRun XOps XDr XOne Does Gives
set_option maxRecDepth 4000
set_option maxHeartbeats 1000000
theorem stC0_P17c {goal next : Prop} (k : next) (hs : Hid next → goal := by (intro k; (first | (refine gC F.cell_Row_Len ?_; refine p_call rfl rfl (cell_Row_Len_spec (h.rf1)) ?_) | (refine gC F.cell_Row_Len ?_; refine p_call rfl rfl (cell_Row_Len_nil h) ?_) | (refine gC F.index_Index_slot ?_; refine p_call rfl rfl (index_Index_slot_nil _ h) ?_) | (refine gC F.cell_Row_Load ?_; refine p_call rfl rfl (cell_Row_Load_spec _ (h.rf1)) ?_) | (refine gC F.cell_Row_Load ?_; refine p_call rfl rfl (cell_Row_Load_nil _ h) ?_) | (refine gC F.index_Index_may ?_; refine p_call rfl rfl (index_Index_may_nil _ h) ?_) | (refine gC F.index_Index_may ?_; refine p_call rfl rfl (index_Index_may_spec _ (h.rf2)) ?_) | (refine gC F.mix_Tag ?_; refine p_call rfl rfl (mix_Tag_spec _ ?_ ?_ h) ?_; iterate 2 (first | assumption | omega | (simp only []; omega) | decide)) | (refine gC F.entry_Fresh ?_; refine p_call rfl rfl (entry_Fresh_spec _ ?_ h) ?_; iterate 1 (first | assumption | omega | (simp only []; omega) | decide)) | (refine gC F.cell_Row_CAS ?_; refine p_call rfl rfl (cell_Row_CAS_spec _ _ _ ?_ ?_ (h.rf1)) ?_; iterate 2 (first | assumption | omega | (simp only []; omega) | decide)) | (refine gC F.cell_Row_CAS ?_; refine p_call rfl rfl (cell_Row_CAS_nil _ _ _ h) ?_) | (refine gC F.entry_To ?_; refine p_call rfl rfl (entry_To_spec _ _ ?_ ?_ ?_ h) ?_; iterate 3 (first | assumption | omega | (simp only []; omega) | decide)) | (refine gC F.cell_Row_Add ?_; refine p_call rfl rfl (cell_Row_Add_spec _ _ (h.rf1)) ?_) | (refine gC F.cell_Row_Add ?_; refine p_call rfl rfl (cell_Row_Add_nil _ _ h) ?_) | (refine gC F.index_Index_all ?_; refine p_call rfl rfl (index_Index_all_nil h) ?_) | (refine gC F.index_Index_all ?_; refine p_call rfl rfl (index_Index_all_spec ?_ (h.rf1)) ?_; iterate 1 (first | assumption | omega | (simp only []; omega) | decide)) | (refine gC F.index_Index_link ?_; refine p_call rfl rfl (index_Index_link_spec ?_ _ ?_ (h.rf2)) ?_; iterate 2 (first | assumption | omega | (simp only []; omega) | decide)) | (refine gC F.index_Index_Chain ?_; refine p_call rfl rfl (index_Index_Chain_nil _ h) ?_) | fail); exact k.out)) : goal := hs ⟨k⟩
theorem stC1_P17c {goal next : Prop} (k : next) (hs : Hid next → goal := by (intro k; (first | (refine gC F.index_Index_slot ?_; refine p_call rfl rfl (index_Index_slot_spec _ (h.rf2)) ?_) | (refine gC F.index_Index_linked ?_; refine p_call rfl rfl (index_Index_linked_spec _ ?_ (h.rf2)) ?_; iterate 1 (first | assumption | omega | (simp only []; omega) | decide)) | (refine gC F.slices_Contains_int_int ?_; refine p_call rfl rfl (slices_Contains_int_int_spec _ _ ?_ (h.rf1)) ?_; iterate 1 (first | assumption | omega | (simp only []; omega) | decide)) | fail); exact k.out)) : goal := hs ⟨k⟩
theorem stD2_P17c {goal next : Prop} (k : next) (hs : Hid next → goal := by (intro k; (first | (refine gCR F.cell_Row_Load ?_; refine r_call rfl rfl rfl (cell_Row_Load_spec _ (h.rf1)) ?_) | (refine gCR F.cell_Row_Load ?_; refine r_call rfl rfl rfl (cell_Row_Load_nil _ h) ?_) | fail); exact k.out)) : goal := hs ⟨k⟩
theorem stC3_P17c {goal next : Prop} (k : next) (hs : Hid next → goal := by (intro k; (first | (refine gC F.index_Index_Chain ?_; refine p_call rfl rfl (index_Index_Chain_spec _ ?_ (h.rf2)) ?_; iterate 1 (first | assumption | omega | (simp only []; omega) | decide)) | fail); exact k.out)) : goal := hs ⟨k⟩
def slotP (x : IdxM) (s : Int) : Prop := 0 ≤ s ∧ s < x.row.ws.length ∧ s % 8 ≠ 7
instance (x : IdxM) (s : Int) : Decidable (slotP x s) := inferInstanceAs (Decidable (_ ∧ _ ∧ _))
def freshW (t : Int) : Int := (packE ⟨0, t, true⟩).1
/-- A try of a cell: did it win; the index behind it. -/
def tryX (x : IdxM) (s old new : Int) : (Bool × Int) × IdxM := ((decide (x.row.there s ∧ x.row.ws.getD s.toNat 0 = old), x.row.may s), { x with row := x.row.cas s old new })
def claimX (x : IdxM) (s y : Int) : (Bool × Int) × IdxM := if slotP x s then tryX x s 0 (freshW (tagZ y)) else ((false, 1), x)
/-- An entry that points elsewhere, and the error. -/
def toE (old a : Int) : Int × Int := if (unpackE old).2 = 0 then packE ⟨a, (unpackE old).1.tag, false⟩ else (0, (unpackE old).2)
def turnX (x : IdxM) (s old a : Int) : (Bool × Int) × IdxM := if slotP x s then (if (toE old a).2 = 0 then tryX x s old (toE old a).1 else ((false, (toE old a).2), x)) else ((false, 1), x)
def spareX (x : IdxM) : (Int × Int) × IdxM := if x.sp ≤ x.taken then ((0, 9), x) else (((x.nb : Int) + x.taken, 0), { x with tk := x.tk.add 0 1 })
def linkedX (x : IdxM) (s : Int) : Prop := ∃ b, b < x.all ∧ x.lnk b ≠ 0 ∧ (x.lnk b : Int) - 1 = s
def linkP (x : IdxM) (b s : Int) : Prop := 0 ≤ b ∧ b < x.all ∧ x.nb ≤ s ∧ s < x.nb + x.taken ∧ ¬ linkedX x s ∧ ¬ b ∈ natsZ (x.chainZ s)
open Classical in
noncomputable def linkX (x : IdxM) (b s : Int) : (Bool × Int) × IdxM := if linkP x b s then tryX x (b * 8 + 7) 0 (s + 1) else ((false, 1), x)
theorem packE_bnd (e : EntM) (a0 : 0 ≤ e.addr) (t0 : 0 ≤ e.tag) : 0 ≤ (packE e).1 ∧ (packE e).1 ≤ 18446744073709551615 := by
  unfold packE
  split
  · rename_i h
    unfold entOk at h
    simp only
    split <;> omega
  · simp
section
variable {S : SP} {w : World} {G : List HProp}

theorem index_Index_slot_spec {b c d : Nat} {x : IdxM} (s : Int) (h : Sat S w (pt b (.cells (idxC x c d) T.index_Index (0, 0)) :: isRow c x.row :: G)) :
    Ret Try.prog F.index_Index_slot #[.pointer (some ⟨b, 0, none⟩), .int .i64 s] w (fun v w' => BoolIs v (slotP x s) ∧ Sat S w' (pt b (.cells (idxC x c d) T.index_Index (0, 0)) :: isRow c x.row :: G)) := by
  refine ret_of is_index_Index_slot rfl ?_
  repeat' (first | refine stPs ?_ | (refine stC0_P17c ?_; rintro _ w ⟨rfl, h⟩) | (refine p_cmp rfl rfl rfl rfl (fun hc => ?_) (fun hc => ?_) <;> simp only [cmpProp] at hc) | fail)
  all_goals refine x_ret' is_index_Index_slot rfl ⟨?_, h.pm2⟩
  all_goals unfold slotP
  all_goals first | exact .t (by omega) | exact .f (by omega)

theorem index_Index_may_spec {b c d : Nat} {x : IdxM} (s : Int) (h : Sat S w (pt b (.cells (idxC x c d) T.index_Index (0, 0)) :: isRow c x.row :: G)) :
    Ret Try.prog F.index_Index_may #[.pointer (some ⟨b, 0, none⟩), .int .i64 s] w (fun v w' => v = .int .i64 (if slotP x s then 0 else 1) ∧ Sat S w' (pt b (.cells (idxC x c d) T.index_Index (0, 0)) :: isRow c x.row :: G)) := by
  refine ret_of is_index_Index_may rfl ?_
  repeat' (first | refine stPs ?_ | (refine stC0_P17c ?_; rintro _ w ⟨rfl, h⟩) | (refine stC1_P17c ?_; rintro _ w ⟨(⟨rfl, hb⟩ | ⟨rfl, hb⟩), h⟩) | fail)
  · exact x_ret' is_index_Index_may rfl ⟨by rw [if_pos hb]; rfl, h⟩
  · exact x_ret' is_index_Index_may rfl ⟨by rw [if_neg hb]; rfl, h⟩

theorem index_Index_Load_spec {b c d : Nat} {x : IdxM} (s : Int) (h : Sat S w (pt b (.cells (idxC x c d) T.index_Index (0, 0)) :: isRow c x.row :: G)) :
    Ret Try.prog F.index_Index_Load #[.pointer (some ⟨b, 0, none⟩), .int .i64 s] w (fun v w' => v = .int .u64 (if slotP x s then x.row.load s else 0) ∧ Sat S w' (pt b (.cells (idxC x c d) T.index_Index (0, 0)) :: isRow c x.row :: G)) := by
  refine ret_of is_index_Index_Load rfl ?_
  repeat' (first | refine stPs ?_ | (refine stC0_P17c ?_; rintro _ w ⟨rfl, h⟩) | (refine stC1_P17c ?_; rintro _ w ⟨(⟨rfl, hb⟩ | ⟨rfl, hb⟩), h⟩) | fail)
  · exact x_ret' is_index_Index_Load rfl ⟨by rw [if_pos hb]; rfl, h.pm2⟩
  · exact x_ret' is_index_Index_Load rfl ⟨by rw [if_neg hb]; rfl, h⟩

theorem index_Index_Claim_spec {b c d : Nat} {x : IdxM} (s y : Int) (y0 : 0 ≤ y) (y1 : y ≤ 18446744073709551615) (h : Sat S w (pt b (.cells (idxC (x) c d) T.index_Index (0, 0)) :: isRow c (x).row :: isRow d (x).tk :: G)) :
    Ret Try.prog F.index_Index_Claim #[.pointer (some ⟨b, 0, none⟩), .int .i64 s, .int .u64 y] w (fun v w' => v = .tuple #[.bool (claimX x s y).1.1, .int .i64 (claimX x s y).1.2] ∧ Sat S w' (pt b (.cells (idxC ((claimX x s y).2) c d) T.index_Index (0, 0)) :: isRow c ((claimX x s y).2).row :: isRow d ((claimX x s y).2).tk :: G)) := by
  have ht0 : 0 ≤ y / 1125899906842624 := Int.ediv_nonneg y0 (by decide)
  have hpb := packE_bnd ⟨0, y / 1125899906842624, true⟩ (by simp) (by simpa using ht0)
  obtain ⟨hp0, hp1⟩ := hpb
  have hp2 : (packE ⟨0, y / 1125899906842624, true⟩).2 = 0 := by
    unfold packE
    rw [if_pos (by refine ⟨by simp, by simp only; omega, by simp⟩)]
  refine ret_of is_index_Index_Claim rfl ?_
  by_cases hs : slotP x s
  · rw [claimX, if_pos hs]
    unfold freshW tagZ
    repeat' (first | (refine gC F.index_Index_may ?_; refine p_call rfl rfl (index_Index_may_spec s (h.sub (.cons (by repeat first | exact .here | apply Has.there) (.cons (by repeat first | exact .here | apply Has.there) (.refl _))))) ?_; rw [if_pos hs]; rintro _ w ⟨rfl, h⟩) | refine stP ?_ | (refine stC0_P17c ?_; rintro _ w ⟨rfl, h⟩) | (refine p_cmp rfl rfl rfl rfl (fun hc => ?_) (fun hc => ?_) <;> simp only [cmpProp] at hc) | fail)
    exact x_ret' is_index_Index_Claim rfl ⟨rfl, h.pm3⟩
  · rw [claimX, if_neg hs]
    repeat' (first | (refine gC F.index_Index_may ?_; refine p_call rfl rfl (index_Index_may_spec s (h.sub (.cons (by repeat first | exact .here | apply Has.there) (.cons (by repeat first | exact .here | apply Has.there) (.refl _))))) ?_; rw [if_neg hs]; rintro _ w ⟨rfl, h⟩) | refine stP ?_ | (refine stC0_P17c ?_; rintro _ w ⟨rfl, h⟩) | (refine p_cmp rfl rfl rfl rfl (fun hc => ?_) (fun hc => ?_) <;> simp only [cmpProp] at hc) | fail)
    exact x_ret' is_index_Index_Claim rfl ⟨rfl, h.pm3⟩

theorem index_Index_Turn_spec {b c d : Nat} {x : IdxM} (s o a : Int) (o0 : 0 ≤ o) (o1 : o ≤ 18446744073709551615) (a0 : 0 ≤ a) (h : Sat S w (pt b (.cells (idxC (x) c d) T.index_Index (0, 0)) :: isRow c (x).row :: isRow d (x).tk :: G)) :
    Ret Try.prog F.index_Index_Turn #[.pointer (some ⟨b, 0, none⟩), .int .i64 s, .int .u64 o, .int .u64 a] w (fun v w' => v = .tuple #[.bool (turnX x s o a).1.1, .int .i64 (turnX x s o a).1.2] ∧ Sat S w' (pt b (.cells (idxC ((turnX x s o a).2) c d) T.index_Index (0, 0)) :: isRow c ((turnX x s o a).2).row :: isRow d ((turnX x s o a).2).tk :: G)) := by
  have hub := unpack_bounds o0
  have hpb := packE_bnd ⟨a, (unpackE o).1.tag, false⟩ a0 hub.2.2.1
  obtain ⟨hp0, hp1⟩ := hpb
  refine ret_of is_index_Index_Turn rfl ?_
  by_cases hs : slotP x s
  · rw [turnX, if_pos hs]
    by_cases hu : (unpackE o).2 = 0
    · have ht : toE o a = packE ⟨a, (unpackE o).1.tag, false⟩ := by rw [toE, if_pos hu]
      rw [ht]
      by_cases he : (packE ⟨a, (unpackE o).1.tag, false⟩).2 = 0
      · rw [if_pos he]
        repeat' (first | (refine gC F.index_Index_may ?_; refine p_call rfl rfl (index_Index_may_spec s (h.sub (.cons (by repeat first | exact .here | apply Has.there) (.cons (by repeat first | exact .here | apply Has.there) (.refl _))))) ?_; rw [if_pos hs]; rintro _ w ⟨rfl, h⟩) | (refine gC F.entry_To ?_; refine p_call rfl rfl (entry_To_spec _ _ o0 o1 a0 h) ?_; rw [if_pos hu]; rintro _ w ⟨rfl, h⟩) | refine stP ?_ | (refine stC0_P17c ?_; rintro _ w ⟨rfl, h⟩) | (refine p_cmp rfl rfl rfl rfl (fun hc => ?_) (fun hc => ?_) <;> simp only [cmpProp] at hc) | fail)
        exact x_ret' is_index_Index_Turn rfl ⟨rfl, h.pm3⟩
      · rw [if_neg he]
        repeat' (first | (refine gC F.index_Index_may ?_; refine p_call rfl rfl (index_Index_may_spec s (h.sub (.cons (by repeat first | exact .here | apply Has.there) (.cons (by repeat first | exact .here | apply Has.there) (.refl _))))) ?_; rw [if_pos hs]; rintro _ w ⟨rfl, h⟩) | (refine gC F.entry_To ?_; refine p_call rfl rfl (entry_To_spec _ _ o0 o1 a0 h) ?_; rw [if_pos hu]; rintro _ w ⟨rfl, h⟩) | refine stP ?_ | (refine stC0_P17c ?_; rintro _ w ⟨rfl, h⟩) | (refine p_cmp rfl rfl rfl rfl (fun hc => ?_) (fun hc => ?_) <;> simp only [cmpProp] at hc) | fail)
        exact x_ret' is_index_Index_Turn rfl ⟨rfl, h.pm3⟩
    · have ht : toE o a = (0, (unpackE o).2) := by rw [toE, if_neg hu]
      rw [ht, if_neg (by simpa using hu)]
      repeat' (first | (refine gC F.index_Index_may ?_; refine p_call rfl rfl (index_Index_may_spec s (h.sub (.cons (by repeat first | exact .here | apply Has.there) (.cons (by repeat first | exact .here | apply Has.there) (.refl _))))) ?_; rw [if_pos hs]; rintro _ w ⟨rfl, h⟩) | (refine gC F.entry_To ?_; refine p_call rfl rfl (entry_To_spec _ _ o0 o1 a0 h) ?_; rw [if_neg hu]; rintro _ w ⟨rfl, h⟩) | refine stP ?_ | (refine stC0_P17c ?_; rintro _ w ⟨rfl, h⟩) | (refine p_cmp rfl rfl rfl rfl (fun hc => ?_) (fun hc => ?_) <;> simp only [cmpProp] at hc) | fail)
      exact x_ret' is_index_Index_Turn rfl ⟨rfl, h.pm3⟩
  · rw [turnX, if_neg hs]
    repeat' (first | (refine gC F.index_Index_may ?_; refine p_call rfl rfl (index_Index_may_spec s (h.sub (.cons (by repeat first | exact .here | apply Has.there) (.cons (by repeat first | exact .here | apply Has.there) (.refl _))))) ?_; rw [if_neg hs]; rintro _ w ⟨rfl, h⟩) | refine stP ?_ | (refine stC0_P17c ?_; rintro _ w ⟨rfl, h⟩) | (refine p_cmp rfl rfl rfl rfl (fun hc => ?_) (fun hc => ?_) <;> simp only [cmpProp] at hc) | fail)
    exact x_ret' is_index_Index_Turn rfl ⟨rfl, h.pm3⟩

/-- What a look for a spare bucket leans on. -/
structure SpOk (x : IdxM) : Prop where
  may : mayN x.nb
  sp : x.sp ≤ 64
  tlen : x.tk.ws.length = 1
  tk : x.taken ≤ x.sp
theorem IdxOk.spOk {x : IdxM} (h : IdxOk x) : SpOk x := ⟨h.may, h.sp, h.tlen, h.tk⟩
theorem sp_taken {x : IdxM} (hok : SpOk x) (hr : x.tk.ok) : x.tk.load 0 = (x.taken : Int) := by
  have hl := hok.tlen
  rw [RowM.load, if_pos (by omega)]
  have := RowM.getD_ok hr 0
  unfold IdxM.taken
  simp only [Int.toNat_zero]
  omega
theorem index_Index_Spare_spec {b c d : Nat} {x : IdxM} (hok : SpOk x) (h : Sat S w (pt b (.cells (idxC (x) c d) T.index_Index (0, 0)) :: isRow c (x).row :: isRow d (x).tk :: G)) :
    Ret Try.prog F.index_Index_Spare #[.pointer (some ⟨b, 0, none⟩)] w (fun v w' => v = .tuple #[.int .i64 (spareX x).1.1, .int .i64 (spareX x).1.2] ∧ Sat S w' (pt b (.cells (idxC ((spareX x).2) c d) T.index_Index (0, 0)) :: isRow c ((spareX x).2).row :: isRow d ((spareX x).2).tk :: G)) := by
  have hs := mayN_le hok.may
  have hsp := hok.sp
  have htk := hok.tk
  have htl := sp_taken hok (isRow_ok h (by repeat first | exact .here | apply Has.there))
  have htm : x.tk.may 0 = 0 := by rw [RowM.may, hok.tlen]; rfl
  refine ret_of is_index_Index_Spare rfl ?_
  by_cases hf : x.sp ≤ x.taken
  · rw [spareX, if_pos hf]
    repeat' (first | refine stPs ?_ | (refine stC0_P17c ?_; rintro _ w ⟨rfl, h⟩) | (refine stD2_P17c ?_; rintro _ w ⟨rfl, h⟩ <;> refine nowa ?_) | (refine p_cmp rfl rfl rfl rfl (fun hc => ?_) (fun hc => ?_) <;> simp only [cmpProp] at hc) | (refine r_cmp rfl rfl rfl rfl rfl (fun hc => ?_) (fun hc => ?_) <;> simp only [cmpProp] at hc) | (refine x_drawn rfl ?_; have h := h.drew) | refine x_drawn rfl ?_ | fail)
    exact x_ret' is_index_Index_Spare rfl ⟨rfl, h.pm3⟩
  · rw [spareX, if_neg hf]
    repeat' (first | refine stPs ?_ | (refine stC0_P17c ?_; rintro _ w ⟨rfl, h⟩) | (refine stD2_P17c ?_; rintro _ w ⟨rfl, h⟩ <;> refine nowa ?_) | (refine p_cmp rfl rfl rfl rfl (fun hc => ?_) (fun hc => ?_) <;> simp only [cmpProp] at hc) | (refine r_cmp rfl rfl rfl rfl rfl (fun hc => ?_) (fun hc => ?_) <;> simp only [cmpProp] at hc) | (refine x_drawn rfl ?_; have h := h.drew) | refine x_drawn rfl ?_ | fail)
    refine x_ret' is_index_Index_Spare rfl ⟨?_, h.pm3⟩
    show Value.tuple #[_, _] = _
    rw [htl, htm]
    rfl

theorem index_Index_linked_spec {b c d : Nat} {x : IdxM} (s : Int) (hok : IdxOk x) (h : Sat S w (pt b (.cells (idxC x c d) T.index_Index (0, 0)) :: isRow c x.row :: G)) :
    Ret Try.prog F.index_Index_linked #[.pointer (some ⟨b, 0, none⟩), .int .i64 s] w (fun v w' => BoolIs v (linkedX x s) ∧ Sat S w' (pt b (.cells (idxC x c d) T.index_Index (0, 0)) :: isRow c x.row :: G)) := by
  have hs := idx_small hok
  refine ret_of is_index_Index_linked rfl ?_
  repeat' (first | refine stPs ?_ | (refine stC0_P17c ?_; rintro _ w ⟨rfl, h⟩) | (refine p_cmp rfl rfl rfl rfl (fun hc => ?_) (fun hc => ?_) <;> simp only [cmpProp] at hc) | fail)
  refine x_keep [0, 1, 9, 10] rfl ?_
  refine x_loop_inv (fun lm le w => ∃ (i : Nat), lm = x.all - i ∧ i ≤ x.all ∧ (∀ j, j < i → ¬ (x.lnk j ≠ 0 ∧ (x.lnk j : Int) - 1 = s)) ∧ le = [(0, .pointer (some ⟨b, 0, none⟩)), (1, .int .i64 s), (9, .int .i64 x.all), (10, .int .i64 i)] ∧ Sat S w (pt b (.cells (idxC x c d) T.index_Index (0, 0)) :: isRow c x.row :: G)) (x.all) ⟨0, rfl, by omega, fun j hj => by omega, rfl, h⟩ ?_
  clear h
  rintro lm le w ⟨i, rfl, hi0, hi1, rfl, h⟩ ih
  by_cases hi : i < x.all
  · by_cases hz : x.lnk i ≠ 0 ∧ (x.lnk i : Int) - 1 = s
    · repeat' (first | refine stPs ?_ | (refine p_cmp rfl rfl rfl rfl (fun hc => ?_) (fun hc => ?_) <;> simp only [cmpProp] at hc) | fail)
      refine p_call rfl rfl (index_Index_link_spec hok i hi h) ?_
      rw [decide_eq_true hz.1]
      rintro _ w ⟨rfl, h⟩
      repeat' (first | refine stPs ?_ | (refine stC0_P17c ?_; rintro _ w ⟨rfl, h⟩) | (refine p_cmp rfl rfl rfl rfl (fun hc => ?_) (fun hc => ?_) <;> simp only [cmpProp] at hc) | fail)
      exact x_ret' is_index_Index_linked rfl ⟨.t ⟨i, hi, hz⟩, h⟩
    · have hnx : ∀ j, j < i + 1 → ¬ (x.lnk j ≠ 0 ∧ (x.lnk j : Int) - 1 = s) := fun j hj => by
        rcases Nat.lt_or_ge j i with hji | hji
        · exact hi1 j hji
        · obtain rfl : j = i := by omega
          exact hz
      repeat' (first | refine stPs ?_ | (refine p_cmp rfl rfl rfl rfl (fun hc => ?_) (fun hc => ?_) <;> simp only [cmpProp] at hc) | fail)
      refine p_call rfl rfl (index_Index_link_spec hok i hi h) ?_
      by_cases hz0 : x.lnk i = 0
      · rw [decide_eq_false (by omega)]
        rintro _ w ⟨rfl, h⟩
        repeat' (first | refine stPs ?_ | (refine stC0_P17c ?_; rintro _ w ⟨rfl, h⟩) | (refine p_cmp rfl rfl rfl rfl (fun hc => ?_) (fun hc => ?_) <;> simp only [cmpProp] at hc) | fail)
        exact x_keep [0, 1, 9, 10] rfl (ih _ _ _ (by omega) ⟨i + 1, rfl, by omega, hnx, rfl, h⟩)
      · rw [decide_eq_true hz0]
        rintro _ w ⟨rfl, h⟩
        repeat' (first | refine stPs ?_ | (refine stC0_P17c ?_; rintro _ w ⟨rfl, h⟩) | (refine p_cmp rfl rfl rfl rfl (fun hc => ?_) (fun hc => ?_) <;> simp only [cmpProp] at hc) | fail)
        exact x_keep [0, 1, 9, 10] rfl (ih _ _ _ (by omega) ⟨i + 1, rfl, by omega, hnx, rfl, h⟩)
  · repeat' (first | refine stPs ?_ | (refine stC0_P17c ?_; rintro _ w ⟨rfl, h⟩) | (refine p_cmp rfl rfl rfl rfl (fun hc => ?_) (fun hc => ?_) <;> simp only [cmpProp] at hc) | fail)
    refine x_ret' is_index_Index_linked rfl ⟨.f ?_, h⟩
    rintro ⟨j, hj, hz⟩
    exact hi1 j (by omega) hz

set_option maxHeartbeats 4000000 in
theorem index_Index_Link_spec {b c d : Nat} {x : IdxM} (k s : Int) (hok : IdxOk x) (h : Sat S w (pt b (.cells (idxC (x) c d) T.index_Index (0, 0)) :: isRow c (x).row :: isRow d (x).tk :: G)) :
    Ret Try.prog F.index_Index_Link #[.pointer (some ⟨b, 0, none⟩), .int .i64 k, .int .i64 s] w (fun v w' => v = .tuple #[.bool (linkX x k s).1.1, .int .i64 (linkX x k s).1.2] ∧ Sat S w' (pt b (.cells (idxC ((linkX x k s).2) c d) T.index_Index (0, 0)) :: isRow c ((linkX x k s).2).row :: isRow d ((linkX x k s).2).tk :: G)) := by
  have hs := idx_small hok
  have hsp := hok.sp
  have htk := hok.tk
  have htl := idx_taken hok (isRow_ok h (by repeat first | exact .here | apply Has.there))
  have hcl : (natsZ (x.chainZ s)).length ≤ 1000000 := by
    rw [natsZ_length]
    unfold IdxM.chainZ
    split
    · have := chainG_length x.lnk (x.all + 1) s.toNat
      unfold IdxM.chain
      omega
    · simp
  refine ret_of is_index_Index_Link rfl ?_
  by_cases hp : linkP x k s
  · rw [linkX, if_pos hp]
    obtain ⟨p1, p2, p3, p4, p5, p6⟩ := hp
    repeat' (first | contradiction | refine stP ?_ | (refine stC0_P17c ?_; rintro _ w ⟨rfl, h⟩) | (refine stC1_P17c ?_; rintro _ w ⟨(⟨rfl, hb⟩ | ⟨rfl, hb⟩), h⟩) | (refine stC3_P17c ?_; rintro v w h) | (refine stD2_P17c ?_; rintro _ w ⟨rfl, h⟩ <;> refine nowa ?_) | (refine p_cmp rfl rfl rfl rfl (fun hc => ?_) (fun hc => ?_) <;> simp only [cmpProp] at hc) | (refine r_cmp rfl rfl rfl rfl rfl (fun hc => ?_) (fun hc => ?_) <;> simp only [cmpProp] at hc) | (refine x_drawn rfl ?_; have h := h.drew) | refine x_drawn rfl ?_ | fail)
    exact x_ret' is_index_Index_Link rfl ⟨rfl, h.pm⟩
  · rw [linkX, if_neg hp]
    repeat' (first | refine stPs ?_ | (refine stC0_P17c ?_; rintro _ w ⟨rfl, h⟩) | (refine stC1_P17c ?_; rintro _ w ⟨(⟨rfl, hb⟩ | ⟨rfl, hb⟩), h⟩) | (refine stC3_P17c ?_; rintro v w h) | (refine stD2_P17c ?_; rintro _ w ⟨rfl, h⟩ <;> refine nowa ?_) | (refine p_cmp rfl rfl rfl rfl (fun hc => ?_) (fun hc => ?_) <;> simp only [cmpProp] at hc) | (refine r_cmp rfl rfl rfl rfl rfl (fun hc => ?_) (fun hc => ?_) <;> simp only [cmpProp] at hc) | (refine x_drawn rfl ?_; have h := h.drew) | refine x_drawn rfl ?_ | fail)
    all_goals first | exact absurd ⟨by omega, by omega, by omega, by omega, by assumption, by assumption⟩ hp | exact x_ret' is_index_Index_Link rfl ⟨rfl, h.pm⟩
end
end Go.Proofs.Ytmlkeackapflhaa
