/- Layer 11 (device): the chapter's example; a device that is not there. -/
import Derived.Test.YtfchenbihepjaaaHxS
import Derived.Test.YtfchenbihepjaaaP11b
namespace Go.Proofs.Ytfchenbihepjaaa
open Go Go.HX
attribute [local irreducible] Ret XRun XOps XDr XOne Does Gives
set_option maxRecDepth 4000
set_option maxHeartbeats 1000000
theorem stC0_W11 {goal next : Prop} (k : next) (hs : Hid next → goal := by (intro k; (first | (refine gC F.device_New ?_; refine p_call rfl rfl (device_New_spec h) ?_) | fail); exact k.out)) : goal := hs ⟨k⟩
theorem stC1_W11 {goal next : Prop} (k : next) (hs : Hid next → goal := by (intro k; (first | (refine gC F.device_Device_Write ?_; refine p_call rfl rfl (device_Device_Write_spec _ _ _ _ ?_ (h.rf4)) ?_; iterate 1 (first | assumption | omega | (simp only []; omega) | decide)) | (refine gC F.device_Device_Write ?_; refine p_call rfl rfl (device_Device_Write_nil _ _ _ h) ?_) | (refine gC F.device_Device_Peek ?_; refine p_call rfl rfl (device_Device_Peek_spec _ _ _ (h.rf4)) ?_) | (refine gC F.device_Device_Peek ?_; refine p_call rfl rfl (device_Device_Peek_nil _ _ h) ?_) | (refine gC F.device_Device_Do ?_; refine p_call rfl rfl (device_Device_Do_spec _ _ (h.rf4)) ?_) | (refine gC F.device_Device_Do ?_; refine p_call rfl rfl (device_Device_Do_nil _ h) ?_) | (refine gC F.device_Device_Take ?_; refine p_call rfl rfl (device_Device_Take_spec _ _ (h.rf4)) ?_) | (refine gC F.device_Device_Take ?_; refine p_call rfl rfl (device_Device_Take_nil _ h) ?_) | (refine gS ?_; (first | refine p_do rfl (d_stwL rfl rfl rfl rfl rfl (h.pick (by repeat first | exact .here | apply Has.there)) (by first | (dsimp only [Value.cells]; done) | exact rfl)) ?_ | refine p_do rfl (d_stL rfl rfl rfl (h.pick (by repeat first | exact .here | apply Has.there)) (by first | exact of_decide_eq_true rfl | simp) (by first | (dsimp only [List.set]; done) | exact rfl)) ?_)) | (refine gC F.law11_awake ?_; refine p_call rfl rfl (law11_awake_spec h) ?_) | (refine gC F.device_Device_Read ?_; refine p_call rfl rfl (device_Device_Read_spec _ _ _ ?_ (h.rf4)) ?_; iterate 1 (first | assumption | omega | (simp only []; omega) | decide)) | (refine gC F.device_Device_Read ?_; refine p_call rfl rfl (device_Device_Read_nil _ _ h) ?_) | (refine gC F.device_Device_Flight ?_; refine p_call rfl rfl (device_Device_Flight_nil h) ?_) | (refine gC F.device_Device_Crash ?_; refine p_call rfl rfl (device_Device_Crash_nil _ _ h) ?_) | (refine gC F.device_Device_Start ?_; refine p_call rfl rfl (device_Device_Start_spec _ (h.rf4)) ?_) | (refine gC F.device_Device_Start ?_; refine p_call rfl rfl (device_Device_Start_nil h) ?_) | (refine gC F.device_Device_On ?_; refine p_call rfl rfl (device_Device_On_spec _ (h.rf1)) ?_) | (refine gC F.device_Device_On ?_; refine p_call rfl rfl (device_Device_On_nil h) ?_) | (refine gC F.device_Device_Blocks ?_; refine p_call rfl rfl (device_Device_Blocks_nil h) ?_) | fail); exact k.out)) : goal := hs ⟨k⟩
theorem stC2_W11 {goal next : Prop} (k : next) (hs : Hid next → goal := by (intro k; (first | (refine gN ?_; refine p_do rfl (d_newL h (by first | (dsimp only [Value.cells]; done) | exact rfl)) ?_) | (refine gBx ?_; refine p_do rfl (d_boxL rfl h (by first | (dsimp only [Value.cells]; done) | exact rfl)) ?_) | fail); exact k.out)) : goal := hs ⟨k⟩
theorem stC3_W11 {goal next : Prop} (k : next) (hs : Hid next → goal := by (intro k; (first | (refine gC F.device_Device_Blocks ?_; refine p_call rfl rfl (device_Device_Blocks_spec _ ?_ (h.rf4)) ?_; iterate 1 (first | assumption | omega | (simp only []; omega) | decide)) | fail); exact k.out)) : goal := hs ⟨k⟩
def dvX : ByteArray := ⟨#[120]⟩
def dv0 : DevM := ⟨false, [], [], [], 0⟩
def dv1 : DevM := ⟨false, [], [(1, ⟨0, 3, true, dvX⟩)], [], 1⟩
def dv2 : DevM := ⟨false, [((0, 3), dvX)], [], [(1, ⟨⟨#[]⟩, false⟩)], 1⟩
def dv3 : DevM := ⟨false, [((0, 3), dvX)], [], [], 1⟩
theorem ask_a : askR dv0 ⟨0, 3, true, dvX⟩ = ((1, 0), dv1) := rfl
theorem do_a : doR dv1 1 = (0, dv2) := rfl
theorem take_a : takeR dv2 1 = ((⟨#[]⟩, 0), dv3) := rfl
theorem take_b : takeR dv3 1 = ((⟨#[]⟩, 7), dv3) := rfl
theorem peek_a : getL ((0, 3) : Int × Int) dv1.blks = none := rfl
theorem peek_b : getL ((0, 3) : Int × Int) dv2.blks = some dvX := rfl
theorem dv_ok0 : DevOk dv0 := ⟨by decide, by decide, by decide⟩
section
variable {S : SP} {w : World} {G : List HProp}

set_option maxHeartbeats 8000000 in
theorem law11_awake_spec (h : Sat S w G) : Ret Try.prog F.law11_awake #[] w (fun v w' => v = .bool true ∧ Sat S w' G) := by
  refine ret_of is_law11_awake rfl ?_
  repeat' (first | (refine gC F.device_Device_Write ?_; refine p_call rfl rfl (device_Device_Write_spec dv0 0 3 dvX dv_ok0 (h.rf4)) ?_; rw [ask_a]; dsimp only [Option.getD, Option.isSome]; rintro _ w ⟨rfl, h⟩) | (refine gC F.device_Device_Peek ?_; first | (refine p_call (dst := some 25) rfl rfl (device_Device_Peek_spec dv1 0 3 (h.rf4)) ?_; rw [peek_a]; dsimp only [Option.getD, Option.isSome]; rintro _ w ⟨rfl, h⟩) | (refine p_call (dst := some 34) rfl rfl (device_Device_Peek_spec dv2 0 3 (h.rf4)) ?_; rw [peek_b]; dsimp only [Option.getD, Option.isSome]; rintro _ w ⟨rfl, h⟩)) | (refine gC F.device_Device_Do ?_; refine p_call rfl rfl (device_Device_Do_spec dv1 1 (h.rf4)) ?_; rw [do_a]; dsimp only [Option.getD, Option.isSome]; rintro _ w ⟨rfl, h⟩) | (refine gC F.device_Device_Take ?_; first | (refine p_call (dst := some 39) rfl rfl (device_Device_Take_spec dv2 1 (h.rf4)) ?_; rw [take_a]; dsimp only [Option.getD, Option.isSome]; rintro _ w ⟨rfl, h⟩) | (refine p_call (dst := some 45) rfl rfl (device_Device_Take_spec dv3 1 (h.rf4)) ?_; rw [take_b]; dsimp only [Option.getD, Option.isSome]; rintro _ w ⟨rfl, h⟩)) | (refine p_val rfl (g_seq rfl rfl) ?_; rw [decide_eq_true (show dvX = ⟨#[120]⟩ from rfl)]) | refine stP ?_ | (refine stC0_W11 ?_; rintro _ w ⟨d, bb, jb, ab, rfl, h⟩) | (refine stC1_W11 ?_; rintro _ w ⟨rfl, h⟩) | (refine stC2_W11 ?_; rintro _ w ⟨bx, rfl, h⟩) | (refine p_cmp rfl rfl rfl rfl (fun hc => ?_) (fun hc => ?_) <;> simp only [cmpProp] at hc) | fail)
  exact x_ret' is_law11_awake rfl ⟨rfl, h.sub (.skip (.skip (.skip (.skip (.skip (.refl _))))))⟩
end
/-- A call that is played. -/
structure Act11 where
  kind : Int
  area : Int
  no : Int
  s : ByteArray
  n : Int
  pa : Option Addr
  pl : Nat
  pc : Nat
  picks : List Int
def act11C (a : Act11) : List Value := [.int .i64 a.kind, .int .i64 a.area, .int .i64 a.no, .string a.s, .int .i64 a.n, .slice a.pa a.pl a.pc]
section
variable {S : SP} {w : World} {G : List HProp}

-- MACRO LDB() = (refine p_val rfl (g_ldq (vs := [.int .i64 a.area, .int .i64 a.no]) rfl (h.at (by repeat first | exact .here | apply Has.there)) rfl rfl) ?_)
set_option maxHeartbeats 8000000 in
theorem law11_DeviceNil_spec (a : Act11) (h : Sat S w G) : Ret Try.prog F.law11_DeviceNil #[.agg (act11C a).toArray] w (fun v w' => v = .bool true ∧ Sat S w' []) := by
  refine ret_of is_law11_DeviceNil rfl ?_
  repeat' (first | (refine p_val rfl (g_ldq (vs := [.int .i64 a.area, .int .i64 a.no]) rfl (h.at (by repeat first | exact .here | apply Has.there)) rfl rfl) ?_) | (refine p_val rfl (g_seq rfl rfl) ?_; rw [decide_eq_true rfl]) | refine stP ?_ | (refine stC1_W11 ?_; rintro _ w ⟨rfl, h⟩) | (refine stC3_W11 ?_; rintro v w ⟨m, hq1, hq2, h⟩) | (refine stC2_W11 ?_; rintro _ w ⟨bx, rfl, h⟩) | (refine p_cmp rfl rfl rfl rfl (fun hc => ?_) (fun hc => ?_) <;> simp only [cmpProp] at hc) | fail)
  exact x_ret' is_law11_DeviceNil rfl ⟨rfl, h.nil⟩
end
abbrev act11Ty : Ty := .st (.pair (.int .i64) (.pair (.st (.pair (.int .i64) (.pair (.int .i64) .unit))) (.pair .str (.pair (.int .i64) (.pair (.sl (.int .i64)) .unit)))))
theorem DeviceNil_law (cs0 : Array Value) (W : World) (w0 : Arg W act11Ty cs0.toList) : Ret Try.prog F.law11_DeviceNil #[.agg cs0] W (fun v w' => v = .bool true ∧ Sat ⟨W.heap.size, W⟩ w' []) := by
  obtain ⟨_, _, e, ⟨k, rfl, _⟩, _, _, rfl, ⟨_, _, rfl, ⟨ba, rfl, _⟩, _, _, rfl, ⟨bn, rfl, _⟩, hu⟩, _, _, rfl, ⟨s, rfl, _⟩, _, _, rfl, ⟨n, rfl, _⟩, _, _, rfl, ⟨pa, pl, pc, els, rfl, _⟩, h⟩ := w0
  obtain rfl : _ = [] := h
  obtain rfl : _ = [] := hu
  have hc : cs0 = (act11C ⟨k, ba, bn, s, n, pa, pl, pc, []⟩).toArray := by
    apply Array.toList_inj.1
    rw [e]
    rfl
  rw [hc]
  exact law11_DeviceNil_spec _ (Sat.begin W)
end Go.Proofs.Ytfchenbihepjaaa
