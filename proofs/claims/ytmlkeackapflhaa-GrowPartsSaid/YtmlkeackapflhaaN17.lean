/- Layer 17 (index): an index that is not there. -/
import Derived.Test.YtmlkeackapflhaaHxS
import Derived.Test.YtmlkeackapflhaaP17c
namespace Go.Proofs.Ytmlkeackapflhaa
open Go Go.HX
attribute [local irreducible] Ret XRun XOps XDr XOne Does Gives
set_option maxRecDepth 4000
set_option maxHeartbeats 1000000
theorem stC0_N17 {goal next : Prop} (k : next) (hs : Hid next → goal := by (intro k; (first | (refine gBx ?_; refine p_do rfl (d_boxL rfl h (by first | (dsimp only [Value.cells]; done) | exact rfl)) ?_) | (refine gN ?_; refine p_do rfl (d_newL h (by first | (dsimp only [Value.cells]; done) | exact rfl)) ?_) | fail); exact k.out)) : goal := hs ⟨k⟩
theorem stC1_N17 {goal next : Prop} (k : next) (hs : Hid next → goal := by (intro k; (first | (refine gS ?_; (first | refine p_do rfl (d_stwL rfl rfl rfl rfl rfl (h.pick (by repeat first | exact .here | apply Has.there)) (by first | (dsimp only [Value.cells]; done) | exact rfl)) ?_ | refine p_do rfl (d_stL rfl rfl rfl (h.pick (by repeat first | exact .here | apply Has.there)) (by first | exact of_decide_eq_true rfl | simp) (by first | (dsimp only [List.set]; done) | exact rfl)) ?_)) | (refine gC F.index_Index_slot ?_; refine p_call rfl rfl (index_Index_slot_nil _ h) ?_) | (refine gC F.index_Index_may ?_; refine p_call rfl rfl (index_Index_may_nil _ h) ?_) | (refine gC F.index_Index_may ?_; refine p_call rfl rfl (index_Index_may_spec _ (h.rf2)) ?_) | (refine gC F.mix_Tag ?_; refine p_call rfl rfl (mix_Tag_spec _ ?_ ?_ h) ?_; iterate 2 (first | assumption | omega | (simp only []; omega) | decide)) | (refine gC F.entry_Fresh ?_; refine p_call rfl rfl (entry_Fresh_spec _ ?_ h) ?_; iterate 1 (first | assumption | omega | (simp only []; omega) | decide)) | (refine gC F.cell_Row_CAS ?_; refine p_call rfl rfl (cell_Row_CAS_spec _ _ _ ?_ ?_ (h.rf1)) ?_; iterate 2 (first | assumption | omega | (simp only []; omega) | decide)) | (refine gC F.cell_Row_CAS ?_; refine p_call rfl rfl (cell_Row_CAS_nil _ _ _ h) ?_) | (refine gC F.entry_To ?_; refine p_call rfl rfl (entry_To_spec _ _ ?_ ?_ ?_ h) ?_; iterate 3 (first | assumption | omega | (simp only []; omega) | decide)) | (refine gC F.cell_Row_Add ?_; refine p_call rfl rfl (cell_Row_Add_spec _ _ (h.rf1)) ?_) | (refine gC F.cell_Row_Add ?_; refine p_call rfl rfl (cell_Row_Add_nil _ _ h) ?_) | (refine gC F.index_Index_all ?_; refine p_call rfl rfl (index_Index_all_nil h) ?_) | (refine gC F.index_Index_all ?_; refine p_call rfl rfl (index_Index_all_spec ?_ (h.rf1)) ?_; iterate 1 (first | assumption | omega | (simp only []; omega) | decide)) | (refine gC F.index_Index_Chain ?_; refine p_call rfl rfl (index_Index_Chain_nil _ h) ?_) | (refine gC F.cell_Row_Counts ?_; refine p_call rfl rfl (cell_Row_Counts_spec (h.rf1)) ?_) | (refine gC F.cell_Row_Counts ?_; refine p_call rfl rfl (cell_Row_Counts_nil h) ?_) | (refine gC F.cell_Row_Len ?_; refine p_call rfl rfl (cell_Row_Len_spec (h.rf1)) ?_) | (refine gC F.cell_Row_Len ?_; refine p_call rfl rfl (cell_Row_Len_nil h) ?_) | (refine gC F.cell_Row_Load ?_; refine p_call rfl rfl (cell_Row_Load_spec _ (h.rf1)) ?_) | (refine gC F.cell_Row_Load ?_; refine p_call rfl rfl (cell_Row_Load_nil _ h) ?_) | (refine gC F.index_Index_link ?_; refine p_call rfl rfl (index_Index_link_spec ?_ _ ?_ (h.rf2)) ?_; iterate 2 (first | assumption | omega | (simp only []; omega) | decide)) | (refine gC F.entry_Unpack ?_; refine p_call rfl rfl (entry_Unpack_spec _ ?_ ?_ h) ?_; iterate 2 (first | assumption | omega | (simp only []; omega) | decide)) | (refine gC F.cell_Row_Store ?_; refine p_call rfl rfl (cell_Row_Store_spec _ _ ?_ ?_ (h.rf1)) ?_; iterate 2 (first | assumption | omega | (simp only []; omega) | decide)) | (refine gC F.cell_Row_Store ?_; refine p_call rfl rfl (cell_Row_Store_nil _ _ h) ?_) | (refine gC F.index_Index_Spare ?_; refine p_call rfl rfl (index_Index_Spare_nil h) ?_) | (refine gC F.index_Index_Spare ?_; refine p_call rfl rfl (index_Index_Spare_spec ?_ (h.rf3)) ?_; iterate 1 (first | assumption | omega | (simp only []; omega) | decide)) | (refine gC F.index_Index_Look ?_; refine p_call rfl rfl (index_Index_Look_nil _ h) ?_) | (refine gC F.index_Index_Look ?_; refine p_call rfl rfl (index_Index_Look_spec _ ?_ ?_ ?_ (h.rf2)) ?_; iterate 3 (first | assumption | omega | (simp only []; omega) | decide)) | (refine gC F.index_Index_Claim ?_; refine p_call rfl rfl (index_Index_Claim_nil _ _ h) ?_) | (refine gC F.index_Index_Claim ?_; refine p_call rfl rfl (index_Index_Claim_spec _ _ ?_ ?_ (h.rf3)) ?_; iterate 2 (first | assumption | omega | (simp only []; omega) | decide)) | (refine gC F.law17_awake ?_; refine p_call rfl rfl (law17_awake_spec h) ?_) | (refine gC F.index_Index_Turn ?_; refine p_call rfl rfl (index_Index_Turn_nil _ _ _ h) ?_) | (refine gC F.index_Index_Turn ?_; refine p_call rfl rfl (index_Index_Turn_spec _ _ _ ?_ ?_ ?_ (h.rf3)) ?_; iterate 3 (first | assumption | omega | (simp only []; omega) | decide)) | (refine gC F.index_Index_Link ?_; refine p_call rfl rfl (index_Index_Link_nil _ _ h) ?_) | (refine gC F.index_Index_Link ?_; refine p_call rfl rfl (index_Index_Link_spec _ _ ?_ (h.rf3)) ?_; iterate 1 (first | assumption | omega | (simp only []; omega) | decide)) | (refine gC F.index_Index_Counts ?_; refine p_call rfl rfl (index_Index_Counts_nil h) ?_) | (refine gC F.index_Index_Load ?_; refine p_call rfl rfl (index_Index_Load_nil _ h) ?_) | (refine gC F.index_Index_Load ?_; refine p_call rfl rfl (index_Index_Load_spec _ (h.rf2)) ?_) | (refine gC F.index_Index_Entries ?_; refine p_call rfl rfl (index_Index_Entries_nil h) ?_) | (refine gC F.index_Index_Words ?_; refine p_call rfl rfl (index_Index_Words_nil h) ?_) | (refine gC F.index_Index_Fill ?_; refine p_call rfl rfl (index_Index_Fill_nil _ h) ?_) | (refine gC F.index_Index_Drop ?_; refine p_call rfl rfl (index_Index_Drop_nil h) ?_) | (refine gC F.index_Index_Drop ?_; refine p_call rfl rfl (index_Index_Drop_spec ?_ ?_ (h.rf3)) ?_; iterate 2 (first | assumption | omega | (simp only []; omega) | decide)) | fail); exact k.out)) : goal := hs ⟨k⟩
theorem stD2_N17 {goal next : Prop} (k : next) (hs : Hid next → goal := by (intro k; (first | (refine gCR F.mix_Bucket ?_; refine r_call rfl rfl rfl (mix_Bucket_spec _ _ ?_ ?_ h) ?_; iterate 2 (first | assumption | omega | (simp only []; omega) | decide)) | (refine gCR F.index_Index_Chain ?_; refine r_call rfl rfl rfl (index_Index_Chain_nil _ h) ?_) | (refine gCR F.cell_Row_Load ?_; refine r_call rfl rfl rfl (cell_Row_Load_spec _ (h.rf1)) ?_) | (refine gCR F.cell_Row_Load ?_; refine r_call rfl rfl rfl (cell_Row_Load_nil _ h) ?_) | (refine gSR ?_; (first | refine r_do rfl rfl (d_stwL rfl rfl rfl rfl rfl (h.pick (by repeat first | exact .here | apply Has.there)) (by first | (dsimp only [Value.cells]; done) | exact rfl)) ?_ | refine r_do rfl rfl (d_stL rfl rfl rfl (h.pick (by repeat first | exact .here | apply Has.there)) (by first | exact of_decide_eq_true rfl | simp) (by first | (dsimp only [List.set]; done) | exact rfl)) ?_)) | (refine gCR F.cell_Row_Len ?_; refine r_call rfl rfl rfl (cell_Row_Len_spec (h.rf1)) ?_) | (refine gCR F.cell_Row_Len ?_; refine r_call rfl rfl rfl (cell_Row_Len_nil h) ?_) | (refine gCR F.cell_Row_Words ?_; refine r_call rfl rfl rfl (cell_Row_Words_nil _ _ h) ?_) | (refine gCR F.cell_Row_Store ?_; refine r_call rfl rfl rfl (cell_Row_Store_spec _ _ ?_ ?_ (h.rf1)) ?_; iterate 2 (first | assumption | omega | (simp only []; omega) | decide)) | (refine gCR F.cell_Row_Store ?_; refine r_call rfl rfl rfl (cell_Row_Store_nil _ _ h) ?_) | (refine gCR F.cell_Row_Fill ?_; refine r_call rfl rfl rfl (cell_Row_Fill_nil _ _ _ _ h) ?_) | fail); exact k.out)) : goal := hs ⟨k⟩
theorem stD3_N17 {goal next : Prop} (k : next) (hs : Hid next → goal := by (intro k; (first | (refine gCR F.index_Index_Chain ?_; refine r_call rfl rfl rfl (index_Index_Chain_spec _ ?_ (h.rf2)) ?_; iterate 1 (first | assumption | omega | (simp only []; omega) | decide)) | fail); exact k.out)) : goal := hs ⟨k⟩
theorem stC4_N17 {goal next : Prop} (k : next) (hs : Hid next → goal := by (intro k; (first | (refine gC F.index_Index_slot ?_; refine p_call rfl rfl (index_Index_slot_spec _ (h.rf2)) ?_) | (refine gC F.index_Index_linked ?_; refine p_call rfl rfl (index_Index_linked_spec _ ?_ (h.rf2)) ?_; iterate 1 (first | assumption | omega | (simp only []; omega) | decide)) | (refine gC F.slices_Contains_int_int ?_; refine p_call rfl rfl (slices_Contains_int_int_spec _ _ ?_ (h.rf1)) ?_; iterate 1 (first | assumption | omega | (simp only []; omega) | decide)) | fail); exact k.out)) : goal := hs ⟨k⟩
theorem stC5_N17 {goal next : Prop} (k : next) (hs : Hid next → goal := by (intro k; (first | (refine gC F.index_Index_Chain ?_; refine p_call rfl rfl (index_Index_Chain_spec _ ?_ (h.rf2)) ?_; iterate 1 (first | assumption | omega | (simp only []; omega) | decide)) | (refine gC F.index_Index_Entries ?_; refine p_call rfl rfl (index_Index_Entries_spec ?_ (h.rf3)) ?_; iterate 1 (first | assumption | omega | (simp only []; omega) | decide)) | (refine gC F.index_Index_Words ?_; refine p_call rfl rfl (index_Index_Words_spec ?_ (h.rf3)) ?_; iterate 1 (first | assumption | omega | (simp only []; omega) | decide)) | fail); exact k.out)) : goal := hs ⟨k⟩
theorem stD6_N17 {goal next : Prop} (k : next) (hs : Hid next → goal := by (intro k; (first | (refine gCR F.cell_Row_Words ?_; refine r_call rfl rfl rfl (cell_Row_Words_spec _ _ (h.rf1)) ?_) | fail); exact k.out)) : goal := hs ⟨k⟩
theorem stC7_N17 {goal next : Prop} (k : next) (hs : Hid next → goal := by (intro k; (first | (refine gC F.index_New ?_; refine p_call rfl rfl (index_New_spec _ _ h) ?_) | fail); exact k.out)) : goal := hs ⟨k⟩
section
variable {S : SP} {w : World} {G : List HProp}

theorem index_Index_Look_nil (y : Int) (h : Sat S w G) : Ret Try.prog F.index_Index_Look #[.pointer none, .int .u64 y] w (fun v w' => v = .tuple #[.agg (lookC ⟨0, 0, 0, 0⟩).toArray, .int .i64 2] ∧ Sat S w' G) := by
  refine ret_of is_index_Index_Look rfl ?_
  repeat' (first | refine stPs ?_ | (refine stC0_N17 ?_; rintro _ w ⟨bx, rfl, h⟩) | (refine stC1_N17 ?_; rintro _ w ⟨rfl, h⟩) | (refine stD2_N17 ?_; rintro _ w ⟨rfl, h⟩ <;> refine nowa ?_) | (refine stD3_N17 ?_; rintro v w h <;> refine nowa ?_) | (refine p_cmp rfl rfl rfl rfl (fun hc => ?_) (fun hc => ?_) <;> simp only [cmpProp] at hc) | (refine r_cmp rfl rfl rfl rfl rfl (fun hc => ?_) (fun hc => ?_) <;> simp only [cmpProp] at hc) | (refine x_drawn rfl ?_; have h := h.drew) | refine x_drawn rfl ?_ | fail)
  exact x_retc is_index_Index_Look (vs := [.agg (lookC ⟨0, 0, 0, 0⟩).toArray, .int .i64 2]) ⟨_, _, _, rfl, rfl, load_pt (h.pick (by repeat first | exact .here | apply Has.there)) (by kernel_rfl) rfl, _, _, rfl, rfl, rfl⟩ ⟨rfl, h.pm⟩

theorem index_Index_may_nil (s : Int) (h : Sat S w G) : Ret Try.prog F.index_Index_may #[.pointer none, .int .i64 s] w (fun v w' => v = .int .i64 2 ∧ Sat S w' G) := by
  refine ret_of is_index_Index_may rfl ?_
  repeat' (first | refine stPs ?_ | (refine stC1_N17 ?_; rintro _ w ⟨rfl, h⟩) | (refine stC4_N17 ?_; rintro _ w ⟨(⟨rfl, hb⟩ | ⟨rfl, hb⟩), h⟩) | fail)
  exact x_ret' is_index_Index_may rfl ⟨rfl, h⟩

theorem index_Index_Claim_nil (s y : Int) (h : Sat S w G) : Ret Try.prog F.index_Index_Claim #[.pointer none, .int .i64 s, .int .u64 y] w (fun v w' => v = .tuple #[.bool false, .int .i64 2] ∧ Sat S w' G) := by
  refine ret_of is_index_Index_Claim rfl ?_
  repeat' (first | refine stPs ?_ | (refine stC1_N17 ?_; rintro _ w ⟨rfl, h⟩) | (refine p_cmp rfl rfl rfl rfl (fun hc => ?_) (fun hc => ?_) <;> simp only [cmpProp] at hc) | fail)
  exact x_ret' is_index_Index_Claim rfl ⟨rfl, h⟩

theorem index_Index_Turn_nil (s o a : Int) (h : Sat S w G) : Ret Try.prog F.index_Index_Turn #[.pointer none, .int .i64 s, .int .u64 o, .int .u64 a] w (fun v w' => v = .tuple #[.bool false, .int .i64 2] ∧ Sat S w' G) := by
  refine ret_of is_index_Index_Turn rfl ?_
  repeat' (first | refine stPs ?_ | (refine stC1_N17 ?_; rintro _ w ⟨rfl, h⟩) | (refine p_cmp rfl rfl rfl rfl (fun hc => ?_) (fun hc => ?_) <;> simp only [cmpProp] at hc) | fail)
  exact x_ret' is_index_Index_Turn rfl ⟨rfl, h⟩

theorem index_Index_Spare_nil (h : Sat S w G) : Ret Try.prog F.index_Index_Spare #[.pointer none] w (fun v w' => v = .tuple #[.int .i64 0, .int .i64 2] ∧ Sat S w' G) := by
  refine ret_of is_index_Index_Spare rfl ?_
  repeat' (first | refine stPs ?_ | (refine stC1_N17 ?_; rintro _ w ⟨rfl, h⟩) | (refine stD2_N17 ?_; rintro _ w ⟨rfl, h⟩ <;> refine nowa ?_) | (refine p_cmp rfl rfl rfl rfl (fun hc => ?_) (fun hc => ?_) <;> simp only [cmpProp] at hc) | (refine r_cmp rfl rfl rfl rfl rfl (fun hc => ?_) (fun hc => ?_) <;> simp only [cmpProp] at hc) | (refine x_drawn rfl ?_; have h := h.drew) | refine x_drawn rfl ?_ | fail)
  exact x_ret' is_index_Index_Spare rfl ⟨rfl, h⟩

theorem index_Index_Link_nil (k s : Int) (h : Sat S w G) : Ret Try.prog F.index_Index_Link #[.pointer none, .int .i64 k, .int .i64 s] w (fun v w' => v = .tuple #[.bool false, .int .i64 2] ∧ Sat S w' G) := by
  refine ret_of is_index_Index_Link rfl ?_
  repeat' (first | refine stPs ?_ | (refine stC1_N17 ?_; rintro _ w ⟨rfl, h⟩) | (refine stC4_N17 ?_; rintro _ w ⟨(⟨rfl, hb⟩ | ⟨rfl, hb⟩), h⟩) | (refine stC5_N17 ?_; rintro v w h) | (refine stD2_N17 ?_; rintro _ w ⟨rfl, h⟩ <;> refine nowa ?_) | (refine p_cmp rfl rfl rfl rfl (fun hc => ?_) (fun hc => ?_) <;> simp only [cmpProp] at hc) | (refine r_cmp rfl rfl rfl rfl rfl (fun hc => ?_) (fun hc => ?_) <;> simp only [cmpProp] at hc) | (refine x_drawn rfl ?_; have h := h.drew) | refine x_drawn rfl ?_ | fail)
  exact x_ret' is_index_Index_Link rfl ⟨rfl, h⟩

theorem index_Index_Counts_nil (h : Sat S w G) : Ret Try.prog F.index_Index_Counts #[.pointer none] w (fun v w' => v = .tuple #[.int .i64 0, .int .i64 0] ∧ Sat S w' G) := by
  refine ret_of is_index_Index_Counts rfl ?_
  repeat' (first | refine stPs ?_ | (refine stC1_N17 ?_; rintro _ w ⟨rfl, h⟩) | fail)
  exact x_ret' is_index_Index_Counts rfl ⟨rfl, h⟩

theorem index_Index_slot_nil (s : Int) (h : Sat S w G) : Ret Try.prog F.index_Index_slot #[.pointer none, .int .i64 s] w (fun v w' => v = .bool false ∧ Sat S w' G) := by
  refine ret_of is_index_Index_slot rfl ?_
  repeat' (first | refine stPs ?_ | (refine stC1_N17 ?_; rintro _ w ⟨rfl, h⟩) | (refine p_cmp rfl rfl rfl rfl (fun hc => ?_) (fun hc => ?_) <;> simp only [cmpProp] at hc) | fail)
  exact x_ret' is_index_Index_slot rfl ⟨rfl, h⟩

theorem index_Index_Load_nil (s : Int) (h : Sat S w G) : Ret Try.prog F.index_Index_Load #[.pointer none, .int .i64 s] w (fun v w' => v = .int .u64 0 ∧ Sat S w' G) := by
  refine ret_of is_index_Index_Load rfl ?_
  repeat' (first | refine stPs ?_ | (refine stC1_N17 ?_; rintro _ w ⟨rfl, h⟩) | (refine stC4_N17 ?_; rintro _ w ⟨(⟨rfl, hb⟩ | ⟨rfl, hb⟩), h⟩) | fail)
  exact x_ret' is_index_Index_Load rfl ⟨rfl, h⟩

theorem index_Index_all_nil (h : Sat S w G) : Ret Try.prog F.index_Index_all #[.pointer none] w (fun v w' => v = .int .i64 0 ∧ Sat S w' G) := by
  refine ret_of is_index_Index_all rfl ?_
  repeat' (first | refine stPs ?_ | (refine x_drawn rfl ?_; have h := h.drew) | refine x_drawn rfl ?_ | fail)
  exact x_ret' is_index_Index_all rfl ⟨rfl, h⟩

theorem index_Index_Chain_nil (k : Int) (h : Sat S w G) : Ret Try.prog F.index_Index_Chain #[.pointer none, .int .i64 k] w (fun v w' => v = .slice none 0 0 ∧ Sat S w' G) := by
  refine ret_of is_index_Index_Chain rfl ?_
  repeat' (first | refine stPs ?_ | (refine stC1_N17 ?_; rintro _ w ⟨rfl, h⟩) | (refine p_cmp rfl rfl rfl rfl (fun hc => ?_) (fun hc => ?_) <;> simp only [cmpProp] at hc) | fail)
  all_goals
    refine x_loop ?_
    repeat' (first | refine stPs ?_ | (refine stC1_N17 ?_; rintro _ w ⟨rfl, h⟩) | (refine p_cmp rfl rfl rfl rfl (fun hc => ?_) (fun hc => ?_) <;> simp only [cmpProp] at hc) | fail)
    exact x_ret' is_index_Index_Chain rfl ⟨rfl, h⟩

theorem index_Index_Entries_nil (h : Sat S w G) : Ret Try.prog F.index_Index_Entries #[.pointer none] w (fun v w' => v = .slice none 0 0 ∧ Sat S w' G) := by
  refine ret_of is_index_Index_Entries rfl ?_
  repeat' (first | refine stPs ?_ | (refine stC1_N17 ?_; rintro _ w ⟨rfl, h⟩) | (refine stC5_N17 ?_; rintro v w h) | (refine p_cmp rfl rfl rfl rfl (fun hc => ?_) (fun hc => ?_) <;> simp only [cmpProp] at hc) | fail)
  exact x_ret' is_index_Index_Entries rfl ⟨rfl, h⟩

theorem index_Index_Words_nil (h : Sat S w G) : Ret Try.prog F.index_Index_Words #[.pointer none] w (fun v w' => v = .slice none 0 0 ∧ Sat S w' G) := by
  refine ret_of is_index_Index_Words rfl ?_
  repeat' (first | refine stPs ?_ | (refine stC1_N17 ?_; rintro _ w ⟨rfl, h⟩) | (refine stD2_N17 ?_; rintro _ w ⟨rfl, h⟩ <;> refine nowa ?_) | (refine stD6_N17 ?_; rintro _ w (⟨hq1, rfl, h⟩ | ⟨hq2, ⟨u, rfl, h⟩⟩) <;> refine nowa ?_) | (refine x_drawn rfl ?_; have h := h.drew) | refine x_drawn rfl ?_ | fail)
  exact x_ret' is_index_Index_Words rfl ⟨rfl, h⟩

theorem index_Index_Fill_nil (v : Value) (h : Sat S w G) : Ret Try.prog F.index_Index_Fill #[.pointer none, v] w (fun v w' => v = .int .i64 2 ∧ Sat S w' G) := by
  refine ret_of is_index_Index_Fill rfl ?_
  repeat' (first | refine stPs ?_ | (refine stD2_N17 ?_; rintro _ w ⟨rfl, h⟩ <;> refine nowa ?_) | (refine p_cmp rfl rfl rfl rfl (fun hc => ?_) (fun hc => ?_) <;> simp only [cmpProp] at hc) | (refine r_cmp rfl rfl rfl rfl rfl (fun hc => ?_) (fun hc => ?_) <;> simp only [cmpProp] at hc) | (refine x_drawn rfl ?_; have h := h.drew) | refine x_drawn rfl ?_ | fail)
  exact x_ret' is_index_Index_Fill rfl ⟨rfl, h⟩

theorem index_Index_Drop_nil (h : Sat S w G) : Ret Try.prog F.index_Index_Drop #[.pointer none] w (fun v w' => v = .int .i64 0 ∧ Sat S w' G) := by
  refine ret_of is_index_Index_Drop rfl ?_
  repeat' (first | refine stPs ?_ | (refine stC1_N17 ?_; rintro _ w ⟨rfl, h⟩) | (refine stC5_N17 ?_; rintro v w h) | (refine stC0_N17 ?_; rintro _ w ⟨bx, rfl, h⟩) | (refine stD2_N17 ?_; rintro _ w ⟨rfl, h⟩ <;> refine nowa ?_) | (refine p_cmp rfl rfl rfl rfl (fun hc => ?_) (fun hc => ?_) <;> simp only [cmpProp] at hc) | (refine r_cmp rfl rfl rfl rfl rfl (fun hc => ?_) (fun hc => ?_) <;> simp only [cmpProp] at hc) | (refine x_drawn rfl ?_; have h := h.drew) | refine x_drawn rfl ?_ | fail)
  exact x_ret' is_index_Index_Drop rfl ⟨rfl, h⟩

set_option maxHeartbeats 4000000 in
theorem law17_awake_spec (h : Sat S w G) : Ret Try.prog F.law17_awake #[] w (fun v w' => v = .bool true ∧ Sat S w' G) := by
  have hok : IdxOk (idx0 1 0) := idx0_ok (by decide) (by decide) (by decide)
  have e1 : lookV (idx0 1 0) 77 = ⟨2, 0, 0, 0⟩ := by rfl
  have e2 : claimX (idx0 1 0) 0 77 = ((true, 0), { idx0 1 0 with row := ⟨[freshW 0, 0, 0, 0, 0, 0, 0, 0], 1, 0⟩ }) := by rfl
  have e3 : (lookV { idx0 1 0 with row := ⟨[freshW 0, 0, 0, 0, 0, 0, 0, 0], 1, 0⟩ } 77).kind = 1 := by rfl
  have hok2 : IdxOk { idx0 1 0 with row := ⟨[freshW 0, 0, 0, 0, 0, 0, 0, 0], 1, 0⟩ } := ⟨hok.may, hok.sp, rfl, fun b hb => by obtain rfl : b = 0 := (by have : b < 1 := hb; omega); decide, rfl, by decide⟩
  refine ret_of is_law17_awake rfl ?_
  repeat' (first | refine stPs ?_ | (refine p_cmp rfl rfl rfl rfl (fun hc => ?_) (fun hc => ?_) <;> simp only [cmpProp] at hc) | fail)
  refine p_call rfl rfl (index_New_spec 1 0 h) ?_
  rintro _ w (⟨hx, _⟩ | ⟨_, b, c, d, rfl, h⟩)
  · exact absurd ⟨by decide, by decide, by decide⟩ hx
  repeat' (first | refine stPs ?_ | (refine p_cmp rfl rfl rfl rfl (fun hc => ?_) (fun hc => ?_) <;> simp only [cmpProp] at hc) | fail)
  refine p_call rfl rfl (index_Index_Look_spec 77 (by decide) (by decide) hok (h.sub (.cons (by repeat first | exact .here | apply Has.there) (.cons (by repeat first | exact .here | apply Has.there) (.refl _))))) ?_
  rw [e1]
  rintro _ w ⟨rfl, h⟩
  repeat' (first | (refine gC F.index_Index_Claim ?_; refine p_call rfl rfl (index_Index_Claim_spec (x := idx0 1 0) 0 77 (by decide) (by decide) (h.rf3)) ?_; rw [e2]; rintro _ w ⟨rfl, h⟩) | (refine gC F.index_Index_Look ?_; refine p_call rfl rfl (index_Index_Look_spec 77 (by decide) (by decide) hok2 (h.sub (.cons (by repeat first | exact .here | apply Has.there) (.cons (by repeat first | exact .here | apply Has.there) (.refl _))))) ?_; rintro _ w ⟨rfl, h⟩) | refine stP ?_ | (refine stC7_N17 ?_; rintro _ w (⟨hq1, rfl, h⟩ | ⟨⟨hq2, hq3, hq4⟩, ⟨b, c, d, rfl, h⟩⟩)) | (refine stC1_N17 ?_; rintro _ w ⟨rfl, h⟩) | (refine stC0_N17 ?_; rintro _ w ⟨bx, rfl, h⟩) | (refine p_cmp rfl rfl rfl rfl (fun hc => ?_) (fun hc => ?_) <;> simp only [cmpProp] at hc) | fail)
  exact x_ret' is_law17_awake rfl ⟨rfl, h.pm⟩

set_option maxHeartbeats 4000000 in
theorem law17_IndexNil_spec {a1 : Option Addr} {l1 c1 : Nat} (k y s o : Int) (m : Bool) (a bk sp : Int) (h : Sat S w G) : Ret Try.prog F.law17_IndexNil #[.agg #[.int .i64 k, .int .u64 y, .int .i64 s, .int .u64 o, .bool m, .int .u64 a, .int .i64 bk, .int .i64 sp], .slice a1 l1 c1] w (fun v w' => v = .bool true ∧ Sat S w' []) := by
  refine ret_of is_law17_IndexNil rfl ?_
  repeat' (first | refine stPs ?_ | (refine stC1_N17 ?_; rintro _ w ⟨rfl, h⟩) | (refine stC5_N17 ?_; rintro v w h) | (refine stC0_N17 ?_; rintro _ w ⟨bx, rfl, h⟩) | (refine p_cmp rfl rfl rfl rfl (fun hc => ?_) (fun hc => ?_) <;> simp only [cmpProp] at hc) | refine p_eqa rfl rfl rfl rfl rfl rfl (fun hc => ?_) (fun hc => ?_) | fail)
  · exact x_ret' is_law17_IndexNil rfl ⟨rfl, h.nil⟩
  · exact absurd ⟨rfl, rfl, rfl, rfl, trivial⟩ hc
theorem IndexNil_law (cs0 : Array Value) (a1 : Option Addr) (len1 cap1 : Nat) (z1 : List Int) (W : World) (w0 : Arg W (.st (.pair (.int .i64) (.pair (.int .u64) (.pair (.int .i64) (.pair (.int .u64) (.pair .bool (.pair (.int .u64) (.pair (.int .i64) (.pair (.int .i64) .unit))))))))) cs0.toList) (_w1 : ArgInts .u64 W a1 len1 cap1 z1) :
    Ret Try.prog F.law17_IndexNil #[.agg cs0, .slice a1 len1 cap1] W (fun v w' => v = .bool true ∧ Sat ⟨W.heap.size, W⟩ w' []) := by
  obtain ⟨_, _, he, ⟨k, rfl, _⟩, _, _, rfl, ⟨y, rfl, _⟩, _, _, rfl, ⟨s, rfl, _⟩, _, _, rfl, ⟨o, rfl, _⟩, _, _, rfl, ⟨m, rfl⟩, _, _, rfl, ⟨a, rfl, _⟩, _, _, rfl, ⟨bk, rfl, _⟩, _, _, rfl, ⟨sp, rfl, _⟩, h⟩ := w0
  obtain rfl : _ = [] := h
  obtain rfl : cs0 = #[.int .i64 k, .int .u64 y, .int .i64 s, .int .u64 o, .bool m, .int .u64 a, .int .i64 bk, .int .i64 sp] := by cases cs0; simpa using he
  exact law17_IndexNil_spec k y s o m a bk sp (Sat.begin W)
end
end Go.Proofs.Ytmlkeackapflhaa
