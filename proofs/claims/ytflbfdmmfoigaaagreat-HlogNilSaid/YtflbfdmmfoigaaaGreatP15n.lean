/- Layer 15 (hlog): a log that is not there. -/
import Derived.Test.YtflbfdmmfoigaaaGreatHxS
import Derived.Test.YtflbfdmmfoigaaaGreatIr0
import Derived.Test.YtflbfdmmfoigaaaGreatIr1
namespace Go.Proofs.YtflbfdmmfoigaaaGreat
open Go Go.HX
attribute [local irreducible] Ret XRun XOps XDr XOne Does Gives
set_option maxRecDepth 4000
set_option maxHeartbeats 1000000
theorem stC0_P15n {goal next : Prop} (k : next) (hs : Hid next → goal := by (intro k; (first | (refine gC F.tail_Tail_Take ?_; refine p_call rfl rfl (tail_Tail_Take_spec _ (h.rf1)) ?_) | (refine gC F.tail_Tail_Take ?_; refine p_call rfl rfl (tail_Tail_Take_nil _ h) ?_) | (refine gC F.marks_Set_At ?_; refine p_call rfl rfl (marks_Set_At_spec _ (h.rf1)) ?_) | (refine gC F.marks_Set_At ?_; refine p_call rfl rfl (marks_Set_At_nil _ h) ?_) | (refine gC F.hlog_Log_Flying ?_; refine p_call rfl rfl (hlog_Log_Flying_nil _ h) ?_) | (refine gC F.pages_Buffer_Page ?_; refine p_call rfl rfl (pages_Buffer_Page_nil _ h) ?_) | (refine gC F.device_Device_Write ?_; refine p_call rfl rfl (device_Device_Write_spec _ _ _ _ ?_ (h.rf4)) ?_; iterate 1 (first | assumption | omega | (simp only []; omega) | decide)) | (refine gC F.device_Device_Write ?_; refine p_call rfl rfl (device_Device_Write_nil _ _ _ h) ?_) | (refine gC F.tail_Tail_Addr ?_; refine p_call rfl rfl (tail_Tail_Addr_spec (h.rf1)) ?_) | (refine gC F.tail_Tail_Addr ?_; refine p_call rfl rfl (tail_Tail_Addr_nil h) ?_) | (refine gC F.epoch_Table_Now ?_; refine p_call rfl rfl (epoch_Table_Now_spec (h.rf1)) ?_) | (refine gC F.epoch_Table_Now ?_; refine p_call rfl rfl (epoch_Table_Now_nil h) ?_) | (refine gC F.epoch_Table_In ?_; refine p_call rfl rfl (epoch_Table_In_nil h) ?_) | (refine gC F.tail_Tail_Begin ?_; refine p_call rfl rfl (tail_Tail_Begin_spec _ (h.rf1)) ?_) | (refine gC F.tail_Tail_Begin ?_; refine p_call rfl rfl (tail_Tail_Begin_nil _ h) ?_) | (refine gC F.pages_Buffer_Close ?_; refine p_call rfl rfl (pages_Buffer_Close_spec _ ?_ ?_ (h.rf3)) ?_; iterate 2 (first | assumption | omega | (simp only []; omega) | decide)) | (refine gC F.pages_Buffer_Close ?_; refine p_call rfl rfl (pages_Buffer_Close_nil _ h) ?_) | (refine gC F.marks_Set_Begin ?_; refine p_call rfl rfl (marks_Set_Begin_nil _ h) ?_) | (refine gC F.marks_Set_Begin ?_; refine p_call rfl rfl (marks_Set_Begin_spec _ ?_ (h.rf1)) ?_; iterate 1 (first | assumption | omega | (simp only []; omega) | decide)) | (refine gC F.pages_Buffer_Open ?_; refine p_call rfl rfl (pages_Buffer_Open_spec _ ?_ ?_ (h.rf3)) ?_; iterate 2 (first | assumption | omega | (simp only []; omega) | decide)) | (refine gC F.pages_Buffer_Open ?_; refine p_call rfl rfl (pages_Buffer_Open_nil _ h) ?_) | (refine gC F.tail_Tail_Over ?_; refine p_call rfl rfl (tail_Tail_Over_nil h) ?_) | (refine gC F.tail_Tail_Offset ?_; refine p_call rfl rfl (tail_Tail_Offset_spec (h.rf1)) ?_) | (refine gC F.tail_Tail_Offset ?_; refine p_call rfl rfl (tail_Tail_Offset_nil h) ?_) | (refine gC F.tail_Tail_Last ?_; refine p_call rfl rfl (tail_Tail_Last_nil h) ?_) | (refine gC F.hlog_Log_need ?_; refine p_call rfl rfl (hlog_Log_need_spec ?_ (h.rf5)) ?_; iterate 1 (first | assumption | omega | (simp only []; omega) | decide)) | (refine gC F.hlog_Log_ShiftHead ?_; refine p_call rfl rfl (hlog_Log_ShiftHead_nil _ h) ?_) | (refine gC F.hlog_Log_grounded ?_; refine p_call rfl rfl (hlog_Log_grounded_spec _ _ _ ?_ ?_ (h.rf4)) ?_; iterate 2 (first | assumption | omega | (simp only []; omega) | decide)) | (refine gC F.hlog_Log_Flush ?_; refine p_call rfl rfl (hlog_Log_Flush_spec _ _ _ ?_ ?_ ?_ ?_ (h.rf11)) ?_; iterate 4 (first | assumption | omega | (simp only []; omega) | decide)) | (refine gC F.hlog_Log_Flush ?_; refine p_call rfl rfl (hlog_Log_Flush_nil _ h) ?_) | (refine gC F.hlog_Log_ShiftReadOnly ?_; refine p_call rfl rfl (hlog_Log_ShiftReadOnly_nil _ h) ?_) | (refine gC F.drain_List_Len ?_; refine p_call rfl rfl (drain_List_Len_spec ?_ (h.rf1)) ?_; iterate 1 (first | assumption | omega | (simp only []; omega) | decide)) | (refine gC F.drain_List_Len ?_; refine p_call rfl rfl (drain_List_Len_nil h) ?_) | (refine gC F.epoch_Table_Bump ?_; refine p_call rfl rfl (epoch_Table_Bump_spec ?_ (h.rf1)) ?_; iterate 1 (first | assumption | omega | (simp only []; omega) | decide)) | (refine gC F.epoch_Table_Bump ?_; refine p_call rfl rfl (epoch_Table_Bump_nil h) ?_) | (refine gC F.drain_List_Put ?_; refine p_call rfl rfl (drain_List_Put_spec _ ?_ (h.rf1)) ?_; iterate 1 (first | assumption | omega | (simp only []; omega) | decide)) | (refine gC F.drain_List_Put ?_; refine p_call rfl rfl (drain_List_Put_nil _ h) ?_) | (refine gC F.hlog_Log_Settle ?_; refine p_call rfl rfl (hlog_Log_Settle_nil h) ?_) | (refine gC F.hlog_Log_shift ?_; refine p_call rfl rfl (hlog_Log_shift_nil _ _ _ h) ?_) | (refine gC F.device_Device_Take ?_; refine p_call rfl rfl (device_Device_Take_spec _ _ (h.rf4)) ?_) | (refine gC F.device_Device_Take ?_; refine p_call rfl rfl (device_Device_Take_nil _ h) ?_) | (refine gS ?_; (first | refine p_do rfl (d_stwL rfl rfl rfl rfl rfl (h.pick (by repeat first | exact .here | apply Has.there)) (by first | (dsimp only [Value.cells]; done) | exact rfl)) ?_ | refine p_do rfl (d_stL rfl rfl rfl (h.pick (by repeat first | exact .here | apply Has.there)) (by first | exact of_decide_eq_true rfl | simp) (by first | (dsimp only [List.set]; done) | exact rfl)) ?_)) | (refine gC F.drain_List_Waiting ?_; refine p_call rfl rfl (drain_List_Waiting_nil h) ?_) | fail); exact k.out)) : goal := hs ⟨k⟩
theorem stC1_P15n {goal next : Prop} (k : next) (hs : Hid next → goal := by (intro k; (first | (refine gC F.hlog_Log_Flying ?_; refine p_call rfl rfl (hlog_Log_Flying_spec _ _ ?_ (h.rf2)) ?_; iterate 1 (first | assumption | omega | (simp only []; omega) | decide)) | (refine gC F.tail_Tail_Over ?_; refine p_call rfl rfl (tail_Tail_Over_spec (h.rf1)) ?_) | (refine gC F.tail_Tail_Last ?_; refine p_call rfl rfl (tail_Tail_Last_spec (h.rf1)) ?_) | (refine gC F.slices_Contains_int_int ?_; refine p_call rfl rfl (slices_Contains_int_int_spec _ _ ?_ (h.rf1)) ?_; iterate 1 (first | assumption | omega | (simp only []; omega) | decide)) | fail); exact k.out)) : goal := hs ⟨k⟩
theorem stC2_P15n {goal next : Prop} (k : next) (hs : Hid next → goal := by (intro k; (first | (refine gC F.pages_Buffer_Page ?_; refine p_call rfl rfl (pages_Buffer_Page_spec _ ?_ ?_ _ (h.rf3)) ?_; iterate 2 (first | assumption | omega | (simp only []; omega) | decide)) | fail); exact k.out)) : goal := hs ⟨k⟩
theorem stC3_P15n {goal next : Prop} (k : next) (hs : Hid next → goal := by (intro k; (first | (refine gC F.epoch_Table_In ?_; refine p_call rfl rfl (epoch_Table_In_spec (h.rf1)) ?_) | (refine gC F.drain_List_Waiting ?_; refine p_call rfl rfl (drain_List_Waiting_spec ?_ (h.rf1)) ?_; iterate 1 (first | assumption | omega | (simp only []; omega) | decide)) | fail); exact k.out)) : goal := hs ⟨k⟩
theorem stD4_P15n {goal next : Prop} (k : next) (hs : Hid next → goal := by (intro k; (first | (refine gCR F.tail_Tail_Page ?_; refine r_call rfl rfl rfl (tail_Tail_Page_spec (h.rf1)) ?_) | (refine gCR F.tail_Tail_Page ?_; refine r_call rfl rfl rfl (tail_Tail_Page_nil h) ?_) | (refine gCR F.marks_Set_Raise ?_; refine r_call rfl rfl rfl (marks_Set_Raise_spec _ _ _ ?_ (h.rf1)) ?_; iterate 1 (first | assumption | omega | (simp only []; omega) | decide)) | (refine gCR F.marks_Set_Raise ?_; refine r_call rfl rfl rfl (marks_Set_Raise_nil _ _ _ h) ?_) | (refine gCR F.epoch_Table_Safe ?_; refine r_call rfl rfl rfl (epoch_Table_Safe_nil h) ?_) | (refine gCR F.epoch_Table_Safe ?_; refine r_call rfl rfl rfl (epoch_Table_Safe_spec (h.rf1)) ?_) | (refine gCR F.drain_List_Ready ?_; refine r_call rfl rfl rfl (drain_List_Ready_nil _ h) ?_) | (refine gCR F.pages_Buffer_Bits ?_; refine r_call rfl rfl rfl (pages_Buffer_Bits_spec (h.rf1)) ?_) | (refine gCR F.pages_Buffer_Bits ?_; refine r_call rfl rfl rfl (pages_Buffer_Bits_nil h) ?_) | (refine gCR F.place_Page ?_; refine r_call rfl rfl rfl (place_Page_spec _ _ ?_ ?_ h) ?_; iterate 2 (first | assumption | omega | (simp only []; omega) | decide)) | (refine gCR F.marks_Set_Region ?_; refine r_call rfl rfl rfl (marks_Set_Region_spec _ _ (h.rf1)) ?_) | (refine gCR F.marks_Set_Region ?_; refine r_call rfl rfl rfl (marks_Set_Region_nil _ _ h) ?_) | fail); exact k.out)) : goal := hs ⟨k⟩
theorem stC5_P15n {goal next : Prop} (k : next) (hs : Hid next → goal := by (intro k; (first | (refine gC F.maps_Keys_map_int_int_int_int ?_; refine p_call rfl rfl (maps_Keys_map_int_int_int_int_spec _ (h.rf1)) ?_) | (refine gC F.maps_Values_map_int_int_int_int ?_; refine p_call rfl rfl (maps_Values_map_int_int_int_int_spec _ (h.rf1)) ?_) | fail); exact k.out)) : goal := hs ⟨k⟩
theorem stC6_P15n {goal next : Prop} (k : next) (hs : Hid next → goal := by (intro k; (first | (refine gC F.slices_Sorted_int ?_; refine p_call rfl rfl (slices_Sorted_int_spec _ ?_ (h.rf2)) ?_; iterate 1 (first | assumption | omega | (simp only []; omega) | decide)) | fail); exact k.out)) : goal := hs ⟨k⟩
theorem stC7_P15n {goal next : Prop} (k : next) (hs : Hid next → goal := by (intro k; (first | (refine gN ?_; refine p_do rfl (d_newL h (by first | (dsimp only [Value.cells]; done) | exact rfl)) ?_) | (refine gBx ?_; refine p_do rfl (d_boxL rfl h (by first | (dsimp only [Value.cells]; done) | exact rfl)) ?_) | fail); exact k.out)) : goal := hs ⟨k⟩
theorem stD8_P15n {goal next : Prop} (k : next) (hs : Hid next → goal := by (intro k; (first | (refine gCR F.drain_List_Ready ?_; refine r_call rfl rfl rfl (drain_List_Ready_spec _ ?_ (h.rf1)) ?_; iterate 1 (first | assumption | omega | (simp only []; omega) | decide)) | fail); exact k.out)) : goal := hs ⟨k⟩
theorem stC9_P15n {goal next : Prop} (k : next) (hs : Hid next → goal := by (intro k; (first | (refine gC F.slices_Collect_int ?_; refine p_call rfl rfl (slices_Collect_int_spec _ ?_ (h.rf2)) ?_; iterate 1 (first | assumption | omega | (simp only []; omega) | decide)) | fail); exact k.out)) : goal := hs ⟨k⟩
theorem stC10_P15n {goal next : Prop} (k : next) (hs : Hid next → goal := by (intro k; (first | (refine gC F.tail_New ?_; refine p_call rfl rfl (tail_New_spec _ _ h) ?_) | fail); exact k.out)) : goal := hs ⟨k⟩
theorem stC11_P15n {goal next : Prop} (k : next) (hs : Hid next → goal := by (intro k; (first | (refine gC F.pages_New ?_; refine p_call rfl rfl (pages_New_spec _ _ h) ?_) | fail); exact k.out)) : goal := hs ⟨k⟩
theorem stC12_P15n {goal next : Prop} (k : next) (hs : Hid next → goal := by (intro k; (first | (refine gC F.epoch_New ?_; refine p_call rfl rfl (epoch_New_spec _ h) ?_) | fail); exact k.out)) : goal := hs ⟨k⟩
theorem stC13_P15n {goal next : Prop} (k : next) (hs : Hid next → goal := by (intro k; (first | (refine gC F.marks_New ?_; refine p_call rfl rfl (marks_New_spec h) ?_) | (refine gC F.drain_New ?_; refine p_call rfl rfl (drain_New_spec h) ?_) | fail); exact k.out)) : goal := hs ⟨k⟩
section
variable {S : SP} {w : World} {G : List HProp}
theorem hlog_Log_Take_nil (n : Int) (h : Sat S w G) : Ret Tryz.prog F.hlog_Log_Take #[.pointer none, .int .i64 n] w (fun v w' => v = .tuple #[.int .u64 0, .int .i64 0, .int .i64 2] ∧ Sat S w' G) := by
  refine ret_of is_hlog_Log_Take rfl ?_
  repeat' (first | contradiction | refine stP ?_ | (refine stC0_P15n ?_; rintro _ w ⟨rfl, h⟩) | fail)
  exact x_ret' is_hlog_Log_Take rfl ⟨rfl, h⟩
theorem hlog_Log_Flush_nil (n : Int) (h : Sat S w G) : Ret Tryz.prog F.hlog_Log_Flush #[.pointer none, .int .i64 n] w (fun v w' => v = .tuple #[.int .i64 0, .int .i64 2] ∧ Sat S w' G) := by
  refine ret_of is_hlog_Log_Flush rfl ?_
  repeat' (first | contradiction | refine stP ?_ | (refine stC0_P15n ?_; rintro _ w ⟨rfl, h⟩) | (refine stC1_P15n ?_; rintro _ w ⟨(⟨rfl, hb⟩ | ⟨rfl, hb⟩), h⟩) | (refine stC2_P15n ?_; rintro _ w ⟨u, rfl, h⟩) | (refine p_cmp rfl rfl rfl rfl (fun hc => ?_) (fun hc => ?_) <;> simp only [cmpProp] at hc) | fail)
  exact x_ret' is_hlog_Log_Flush rfl ⟨rfl, h⟩
theorem hlog_Log_Begin_nil (n : Int) (h : Sat S w G) : Ret Tryz.prog F.hlog_Log_Begin #[.pointer none, .int .i64 n] w (fun v w' => v = .int .i64 2 ∧ Sat S w' G) := by
  refine ret_of is_hlog_Log_Begin rfl ?_
  repeat' (first | contradiction | refine stP ?_ | (refine stC0_P15n ?_; rintro _ w ⟨rfl, h⟩) | (refine stC3_P15n ?_; rintro v w h) | (refine p_cmp rfl rfl rfl rfl (fun hc => ?_) (fun hc => ?_) <;> simp only [cmpProp] at hc) | fail)
  exact x_ret' is_hlog_Log_Begin rfl ⟨rfl, h⟩
theorem hlog_Log_Turn_nil (h : Sat S w G) : Ret Tryz.prog F.hlog_Log_Turn #[.pointer none] w (fun v w' => v = .int .i64 2 ∧ Sat S w' G) := by
  refine ret_of is_hlog_Log_Turn rfl ?_
  repeat' (first | contradiction | refine stP ?_ | (refine stC1_P15n ?_; rintro _ w ⟨(⟨rfl, hb⟩ | ⟨rfl, hb⟩), h⟩) | (refine stC0_P15n ?_; rintro _ w ⟨rfl, h⟩) | fail)
  exact x_ret' is_hlog_Log_Turn rfl ⟨rfl, h⟩
theorem hlog_Log_Close_nil (h : Sat S w G) : Ret Tryz.prog F.hlog_Log_Close #[.pointer none] w (fun v w' => v = .int .i64 2 ∧ Sat S w' G) := by
  refine ret_of is_hlog_Log_Close rfl ?_
  repeat' (first | contradiction | refine stP ?_ | (refine stC0_P15n ?_; rintro _ w ⟨rfl, h⟩) | (refine p_cmp rfl rfl rfl rfl (fun hc => ?_) (fun hc => ?_) <;> simp only [cmpProp] at hc) | fail)
  exact x_ret' is_hlog_Log_Close rfl ⟨rfl, h⟩
theorem hlog_Log_Help_nil (h : Sat S w G) : Ret Tryz.prog F.hlog_Log_Help #[.pointer none] w (fun v w' => v = .bool false ∧ Sat S w' G) := by
  refine ret_of is_hlog_Log_Help rfl ?_
  repeat' (first | contradiction | refine stP ?_ | (refine stC1_P15n ?_; rintro _ w ⟨(⟨rfl, hb⟩ | ⟨rfl, hb⟩), h⟩) | (refine stC0_P15n ?_; rintro _ w ⟨rfl, h⟩) | (refine p_cmp rfl rfl rfl rfl (fun hc => ?_) (fun hc => ?_) <;> simp only [cmpProp] at hc) | fail)
  exact x_ret' is_hlog_Log_Help rfl ⟨rfl, h⟩
theorem hlog_Log_shift_nil (a b c : Int) (h : Sat S w G) : Ret Tryz.prog F.hlog_Log_shift #[.pointer none, .int .i64 a, .int .i64 b, .int .i64 c] w (fun v w' => v = .int .i64 2 ∧ Sat S w' G) := by
  refine ret_of is_hlog_Log_shift rfl ?_
  repeat' (first | contradiction | refine stP ?_ | (refine stC0_P15n ?_; rintro _ w ⟨rfl, h⟩) | (refine stD4_P15n ?_; rintro _ w ⟨rfl, h⟩ <;> refine nowa ?_) | (refine p_cmp rfl rfl rfl rfl (fun hc => ?_) (fun hc => ?_) <;> simp only [cmpProp] at hc) | (refine r_cmp rfl rfl rfl rfl rfl (fun hc => ?_) (fun hc => ?_) <;> simp only [cmpProp] at hc) | (refine x_drawn rfl ?_; have h := h.drew) | refine x_drawn rfl ?_ | fail)
  exact x_ret' is_hlog_Log_shift rfl ⟨rfl, h⟩
theorem hlog_Log_ShiftReadOnly_nil (n : Int) (h : Sat S w G) : Ret Tryz.prog F.hlog_Log_ShiftReadOnly #[.pointer none, .int .i64 n] w (fun v w' => v = .int .i64 2 ∧ Sat S w' G) := by
  refine ret_of is_hlog_Log_ShiftReadOnly rfl ?_
  repeat' (first | contradiction | refine stP ?_ | (refine stC0_P15n ?_; rintro _ w ⟨rfl, h⟩) | fail)
  exact x_ret' is_hlog_Log_ShiftReadOnly rfl ⟨rfl, h⟩
theorem hlog_Log_ShiftHead_nil (n : Int) (h : Sat S w G) : Ret Tryz.prog F.hlog_Log_ShiftHead #[.pointer none, .int .i64 n] w (fun v w' => v = .int .i64 2 ∧ Sat S w' G) := by
  refine ret_of is_hlog_Log_ShiftHead rfl ?_
  repeat' (first | contradiction | refine stP ?_ | (refine stC0_P15n ?_; rintro _ w ⟨rfl, h⟩) | fail)
  exact x_ret' is_hlog_Log_ShiftHead rfl ⟨rfl, h⟩
theorem hlog_Log_Land_nil (h : Sat S w G) : Ret Tryz.prog F.hlog_Log_Land #[.pointer none] w (fun v w' => v = .int .i64 0 ∧ Sat S w' G) := by
  refine ret_of is_hlog_Log_Land rfl ?_
  repeat' (first | contradiction | refine stP ?_ | (refine stC5_P15n ?_; rintro _ w ⟨bm, rfl, h⟩) | (refine stC6_P15n ?_; rintro v w ⟨m, hq1, hq2, h⟩) | (refine stC0_P15n ?_; rintro _ w ⟨rfl, h⟩) | (refine stD4_P15n ?_; rintro _ w ⟨rfl, h⟩ <;> refine nowa ?_) | (refine p_cmp rfl rfl rfl rfl (fun hc => ?_) (fun hc => ?_) <;> simp only [cmpProp] at hc) | (refine r_cmp rfl rfl rfl rfl rfl (fun hc => ?_) (fun hc => ?_) <;> simp only [cmpProp] at hc) | (refine x_drawn rfl ?_; have h := h.drew) | refine x_drawn rfl ?_ | fail)
  exact x_ret' is_hlog_Log_Land rfl ⟨rfl, h⟩
theorem hlog_Log_Settle_nil (h : Sat S w G) : Ret Tryz.prog F.hlog_Log_Settle #[.pointer none] w (fun v w' => v = .int .i64 0 ∧ Sat S w' G) := by
  refine ret_of is_hlog_Log_Settle rfl ?_
  repeat' (first | contradiction | refine stP ?_ | (refine stC7_P15n ?_; rintro _ w ⟨bx, rfl, h⟩) | (refine stC0_P15n ?_; rintro _ w ⟨rfl, h⟩) | (refine stD4_P15n ?_; rintro _ w ⟨rfl, h⟩ <;> refine nowa ?_) | (refine stD8_P15n ?_; rintro v w h <;> refine nowa ?_) | (refine p_cmp rfl rfl rfl rfl (fun hc => ?_) (fun hc => ?_) <;> simp only [cmpProp] at hc) | (refine r_cmp rfl rfl rfl rfl rfl (fun hc => ?_) (fun hc => ?_) <;> simp only [cmpProp] at hc) | (refine x_drawn rfl ?_; have h := h.drew) | refine x_drawn rfl ?_ | fail)
  exact x_ret' is_hlog_Log_Settle rfl ⟨rfl, h⟩
theorem hlog_Log_Region_nil (a : Int) (h : Sat S w G) : Ret Tryz.prog F.hlog_Log_Region #[.pointer none, .int .u64 a] w (fun v w' => v = .int .i64 0 ∧ Sat S w' G) := by
  refine ret_of is_hlog_Log_Region rfl ?_
  repeat' (first | contradiction | refine stP ?_ | (refine stD4_P15n ?_; rintro _ w ⟨rfl, h⟩ <;> refine nowa ?_) | (refine p_cmp rfl rfl rfl rfl (fun hc => ?_) (fun hc => ?_) <;> simp only [cmpProp] at hc) | (refine r_cmp rfl rfl rfl rfl rfl (fun hc => ?_) (fun hc => ?_) <;> simp only [cmpProp] at hc) | (refine x_drawn rfl ?_; have h := h.drew) | refine x_drawn rfl ?_ | fail)
  exact x_ret' is_hlog_Log_Region rfl ⟨rfl, h⟩
theorem hlog_Log_Flying_nil (n : Int) (h : Sat S w G) : Ret Tryz.prog F.hlog_Log_Flying #[.pointer none, .int .i64 n] w (fun v w' => v = .bool false ∧ Sat S w' G) := by
  refine ret_of is_hlog_Log_Flying rfl ?_
  repeat' (first | contradiction | refine stP ?_ | (refine stC5_P15n ?_; rintro _ w ⟨bm, rfl, h⟩) | (refine stC9_P15n ?_; rintro v w ⟨xs, hq1, h⟩) | (refine stC1_P15n ?_; rintro _ w ⟨(⟨rfl, hb⟩ | ⟨rfl, hb⟩), h⟩) | fail)
  exact x_ret' is_hlog_Log_Flying rfl ⟨rfl, h⟩
theorem hlog_Log_Pages_nil (h : Sat S w G) : Ret Tryz.prog F.hlog_Log_Pages #[.pointer none] w (fun v w' => v = .pointer none ∧ Sat S w' G) := by
  refine ret_of is_hlog_Log_Pages rfl ?_
  repeat' (first | contradiction | refine stP ?_ | fail)
  exact x_ret' is_hlog_Log_Pages rfl ⟨rfl, h⟩
theorem hlog_Log_Marks_nil (h : Sat S w G) : Ret Tryz.prog F.hlog_Log_Marks #[.pointer none] w (fun v w' => v = .pointer none ∧ Sat S w' G) := by
  refine ret_of is_hlog_Log_Marks rfl ?_
  repeat' (first | contradiction | refine stP ?_ | fail)
  exact x_ret' is_hlog_Log_Marks rfl ⟨rfl, h⟩
theorem hlog_Log_Tail_nil (h : Sat S w G) : Ret Tryz.prog F.hlog_Log_Tail #[.pointer none] w (fun v w' => v = .pointer none ∧ Sat S w' G) := by
  refine ret_of is_hlog_Log_Tail rfl ?_
  repeat' (first | contradiction | refine stP ?_ | fail)
  exact x_ret' is_hlog_Log_Tail rfl ⟨rfl, h⟩
theorem hlog_Log_Epoch_nil (h : Sat S w G) : Ret Tryz.prog F.hlog_Log_Epoch #[.pointer none] w (fun v w' => v = .pointer none ∧ Sat S w' G) := by
  refine ret_of is_hlog_Log_Epoch rfl ?_
  repeat' (first | contradiction | refine stP ?_ | fail)
  exact x_ret' is_hlog_Log_Epoch rfl ⟨rfl, h⟩
theorem hlog_Log_Device_nil (h : Sat S w G) : Ret Tryz.prog F.hlog_Log_Device #[.pointer none] w (fun v w' => v = .pointer none ∧ Sat S w' G) := by
  refine ret_of is_hlog_Log_Device rfl ?_
  repeat' (first | contradiction | refine stP ?_ | fail)
  exact x_ret' is_hlog_Log_Device rfl ⟨rfl, h⟩
theorem hlog_Log_Waiting_nil (h : Sat S w G) : Ret Tryz.prog F.hlog_Log_Waiting #[.pointer none] w (fun v w' => v = .slice none 0 0 ∧ Sat S w' G) := by
  refine ret_of is_hlog_Log_Waiting rfl ?_
  repeat' (first | contradiction | refine stP ?_ | (refine stC3_P15n ?_; rintro v w h) | (refine stC0_P15n ?_; rintro _ w ⟨rfl, h⟩) | fail)
  exact x_ret' is_hlog_Log_Waiting rfl ⟨rfl, h⟩
theorem hlog_New_nil {c : Array Value} (h : Sat S w G) : Ret Tryz.prog F.hlog_New #[.agg c, .pointer none] w (fun v w' => v = .tuple #[.pointer none, .int .i64 2] ∧ Sat S w' G) := by
  refine ret_of is_hlog_New rfl ?_
  repeat' (first | contradiction | refine stP ?_ | (refine stC10_P15n ?_; rintro _ w (⟨hq1, rfl, h⟩ | ⟨⟨⟨hq2, hq3⟩, hq4, hq5⟩, ⟨b, c, rfl, h⟩⟩)) | (refine stC11_P15n ?_; rintro _ w (⟨hq1, rfl, h⟩ | ⟨⟨⟨hq2, hq3⟩, hq4, hq5⟩, ⟨b, c, d, rfl, h⟩⟩)) | (refine stC12_P15n ?_; rintro _ w (⟨hq1, rfl, h⟩ | ⟨hq2, hq3, ⟨b, rfl, h⟩⟩)) | (refine stC13_P15n ?_; rintro _ w ⟨b, rfl, h⟩) | (refine stC0_P15n ?_; rintro _ w ⟨rfl, h⟩) | (refine stC7_P15n ?_; rintro _ w ⟨bx, rfl, h⟩) | (refine p_cmp rfl rfl rfl rfl (fun hc => ?_) (fun hc => ?_) <;> simp only [cmpProp] at hc) | fail)
  exact x_ret' is_hlog_New rfl ⟨rfl, h.drop⟩
end
end Go.Proofs.YtflbfdmmfoigaaaGreat
