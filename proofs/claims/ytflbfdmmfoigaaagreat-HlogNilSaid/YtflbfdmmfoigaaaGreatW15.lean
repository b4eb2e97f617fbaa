/- Layer 15 (hlog): the chapter's example; a log that is not there. -/
import Derived.Test.YtflbfdmmfoigaaaGreatHxS
import Derived.Test.YtflbfdmmfoigaaaGreatP15g
namespace Go.Proofs.YtflbfdmmfoigaaaGreat
open Go Go.HX
attribute [local irreducible] Ret XRun XOps XDr XOne Does Gives
set_option maxRecDepth 4000
set_option maxHeartbeats 1000000
theorem stC0_W15 {goal next : Prop} (k : next) (hs : Hid next → goal := by (intro k; (first | (refine gC F.device_New ?_; refine p_call rfl rfl (device_New_spec h) ?_) | fail); exact k.out)) : goal := hs ⟨k⟩
theorem stC1_W15 {goal next : Prop} (k : next) (hs : Hid next → goal := by (intro k; (first | (refine gC F.hlog_New ?_; refine p_call rfl rfl (hlog_New_nil h) ?_) | (refine gC F.hlog_Log_Take ?_; refine p_call rfl rfl (hlog_Log_Take_spec _ (h.rf2)) ?_) | (refine gC F.hlog_Log_Take ?_; refine p_call rfl rfl (hlog_Log_Take_nil _ h) ?_) | (refine gC F.hlog_Log_Turn ?_; refine p_call rfl rfl (hlog_Log_Turn_spec _ _ ?_ (h.rf14)) ?_; iterate 1 (first | assumption | omega | (simp only []; omega) | decide)) | (refine gC F.hlog_Log_Turn ?_; refine p_call rfl rfl (hlog_Log_Turn_nil h) ?_) | (refine gC F.device_Device_Do ?_; refine p_call rfl rfl (device_Device_Do_spec _ _ (h.rf4)) ?_) | (refine gC F.device_Device_Do ?_; refine p_call rfl rfl (device_Device_Do_nil _ h) ?_) | (refine gC F.hlog_Log_Land ?_; refine p_call rfl rfl (hlog_Log_Land_nil h) ?_) | (refine gC F.hlog_Log_Tail ?_; refine p_call rfl rfl (hlog_Log_Tail_spec (h.rf1)) ?_) | (refine gC F.hlog_Log_Tail ?_; refine p_call rfl rfl (hlog_Log_Tail_nil h) ?_) | (refine gC F.tail_Tail_Page ?_; refine p_call rfl rfl (tail_Tail_Page_spec (h.rf1)) ?_) | (refine gC F.tail_Tail_Page ?_; refine p_call rfl rfl (tail_Tail_Page_nil h) ?_) | (refine gC F.law15_awake ?_; refine p_call rfl rfl (law15_awake_spec h) ?_) | (refine gC F.hlog_Log_Flush ?_; refine p_call rfl rfl (hlog_Log_Flush_spec _ _ _ ?_ ?_ ?_ ?_ (h.rf11)) ?_; iterate 4 (first | assumption | omega | (simp only []; omega) | decide)) | (refine gC F.hlog_Log_Flush ?_; refine p_call rfl rfl (hlog_Log_Flush_nil _ h) ?_) | (refine gC F.hlog_Log_Begin ?_; refine p_call rfl rfl (hlog_Log_Begin_nil _ h) ?_) | (refine gC F.hlog_Log_Close ?_; refine p_call rfl rfl (hlog_Log_Close_nil h) ?_) | (refine gC F.hlog_Log_Help ?_; refine p_call rfl rfl (hlog_Log_Help_nil h) ?_) | (refine gC F.hlog_Log_ShiftReadOnly ?_; refine p_call rfl rfl (hlog_Log_ShiftReadOnly_nil _ h) ?_) | (refine gC F.hlog_Log_ShiftHead ?_; refine p_call rfl rfl (hlog_Log_ShiftHead_nil _ h) ?_) | (refine gC F.hlog_Log_Settle ?_; refine p_call rfl rfl (hlog_Log_Settle_nil h) ?_) | (refine gC F.hlog_Log_Region ?_; refine p_call rfl rfl (hlog_Log_Region_nil _ h) ?_) | (refine gC F.hlog_Log_Flying ?_; refine p_call rfl rfl (hlog_Log_Flying_nil _ h) ?_) | (refine gC F.hlog_Log_Pages ?_; refine p_call rfl rfl (hlog_Log_Pages_nil h) ?_) | (refine gC F.hlog_Log_Marks ?_; refine p_call rfl rfl (hlog_Log_Marks_nil h) ?_) | (refine gC F.hlog_Log_Epoch ?_; refine p_call rfl rfl (hlog_Log_Epoch_nil h) ?_) | (refine gC F.hlog_Log_Device ?_; refine p_call rfl rfl (hlog_Log_Device_nil h) ?_) | (refine gC F.hlog_Log_Waiting ?_; refine p_call rfl rfl (hlog_Log_Waiting_nil h) ?_) | fail); exact k.out)) : goal := hs ⟨k⟩
theorem stC2_W15 {goal next : Prop} (k : next) (hs : Hid next → goal := by (intro k; (first | (refine gC F.hlog_Log_Land ?_; refine p_call rfl rfl (hlog_Log_Land_spec _ ?_ _ _ ?_ (h.rf9)) ?_; iterate 2 (first | assumption | omega | (simp only []; omega) | decide)) | fail); exact k.out)) : goal := hs ⟨k⟩
theorem stC3_W15 {goal next : Prop} (k : next) (hs : Hid next → goal := by (intro k; (first | (refine gC F.hlog_Log_Flying ?_; refine p_call rfl rfl (hlog_Log_Flying_spec _ _ ?_ (h.rf2)) ?_; iterate 1 (first | assumption | omega | (simp only []; omega) | decide)) | fail); exact k.out)) : goal := hs ⟨k⟩
theorem stC4_W15 {goal next : Prop} (k : next) (hs : Hid next → goal := by (intro k; (first | (refine gBx ?_; refine p_do rfl (d_boxL rfl h (by first | (dsimp only [Value.cells]; done) | exact rfl)) ?_) | fail); exact k.out)) : goal := hs ⟨k⟩
theorem five32 : sizeZ 5 = 32 := by unfold sizeZ; decide
/-- A buffer of two frames, of noughts. -/
def bufQ (h : List Int) (a b : Int) : BufM := ⟨5, ⟨List.replicate 64 0, 0, 0⟩, ⟨h, a, b⟩⟩
theorem bufQ_ok (x y a b : Int) : BufOk (bufQ [x, y] a b) := ⟨by show 5 ≤ (5 : Int) ∧ (5 : Int) ≤ 9; decide, by show 2 ≤ 2 ∧ 2 ≤ 8; decide, by show (List.length (List.replicate 64 (0 : Int)) : Int) = 2 * sizeZ 5; rw [five32]; rfl⟩
theorem bufQ_0 : buf0 5 2 = bufQ [0, 0] 0 0 := by
  unfold buf0
  rw [five32]
  rfl
theorem open_a : (bufQ [0, 0] 0 0).openR 0 = (0, bufQ [1, 0] 1 0) := by
  unfold BufM.openR BufM.has BufM.frame bufQ
  rw [five32]
  rfl
theorem close_m : (bufQ [1, 0] 1 0).closeR (1 - (2 : Nat)) = (7, bufQ [1, 0] 1 0) := rfl
theorem open_b : (bufQ [1, 0] 1 0).openR 1 = (0, bufQ [1, 2] 2 0) := by
  unfold BufM.openR BufM.has BufM.frame bufQ
  rw [five32]
  rfl
theorem next_b : nextB (bufQ [1, 0] 1 0) 1 = (0, bufQ [1, 2] 2 0) := by
  unfold nextB
  rw [show (bufQ [1, 0] 1 0).hr.ws.length = 2 from rfl, close_m, open_b]
theorem close_0 : (bufQ [1, 2] 2 0).closeR (2 - (2 : Nat)) = (0, bufQ [0, 2] 2 0) := rfl
theorem open_2 : (bufQ [0, 2] 2 0).openR 2 = (0, bufQ [3, 2] 3 0) := by
  unfold BufM.openR BufM.has BufM.frame bufQ
  rw [five32]
  rfl
theorem next_c : nextB (bufQ [1, 2] 2 0) 2 = (0, bufQ [3, 2] 3 0) := by
  unfold nextB
  rw [show (bufQ [1, 2] 2 0).hr.ws.length = 2 from rfl, close_0, open_2]
def tl (p o : Int) : TailM := ⟨5, 3, p, o⟩
def dv0 : DevM := { off := false, blks := [], jobs := [], anss := [], last := 0 }
def txt : ByteArray := packS 0 (List.replicate 32 0)
def dv1 : DevM := { off := false, blks := [], jobs := [(1, ⟨0, 0, true, txt⟩)], anss := [], last := 1 }
def dv2 : DevM := { off := false, blks := [((0, 0), txt)], jobs := [], anss := [(1, ⟨⟨#[]⟩, false⟩)], last := 1 }
def dv3 : DevM := { off := false, blks := [((0, 0), txt)], jobs := [], anss := [], last := 1 }
def qq (l : List Int) (n : Int) : DueM := ⟨l, ⟨n, [0]⟩, []⟩
theorem take_1 : takeT (tl 0 1) 31 = ((1, 1, 0), tl 0 32) := by unfold takeT; rw [show sizeZ (tl 0 1).bits = 32 from five32]; rfl
theorem take_2 : takeT (tl 0 32) 1 = ((0, 2, 0), tl 0 33) := by unfold takeT; rw [show sizeZ (tl 0 32).bits = 32 from five32]; rfl
theorem take_3 : takeT (tl 1 0) 32 = ((32, 1, 0), tl 1 32) := by unfold takeT; rw [show sizeZ (tl 1 0).bits = 32 from five32]; rfl
theorem take_4 : takeT (tl 1 32) 1 = ((0, 2, 0), tl 1 33) := by unfold takeT; rw [show sizeZ (tl 1 32).bits = 32 from five32]; rfl
theorem turn_t (p : Int) (h : ¬ isLast (tl p 33)) : tturnT (tl p 33) = (0, tl (p + 1) 0) := by
  unfold tturnT
  rw [show sizeZ (tl p 33).bits = 32 from five32, if_pos (by show (32 : Int) < 33; decide)]
  unfold nextT
  rw [if_neg h]
  rfl
theorem turn_over (p : Int) (land : NL) (y : BufM) (q : DueM) (z : FlyM) : turnL land ⟨tl p 33, y, q, z⟩ = furtherR tturnT land ⟨tl p 33, y, q, z⟩ := by
  unfold turnL
  rw [show sizeZ (MoreM.mk (tl p 33) y q z).tail.bits = 32 from five32]
  rfl
theorem turn_1 : turnL [] ⟨tl 0 33, bufQ [1, 0] 1 0, qq [0, 0, 0, 0, 0] 1, ⟨[], dv0⟩⟩ = (0, ⟨tl 1 0, bufQ [1, 2] 2 0, qq [0, 0, 0, 0, 0] 1, ⟨[], dv0⟩⟩) := by
  rw [turn_over]
  unfold furtherR
  dsimp only
  rw [show (tl 0 33).page + 1 = 1 from rfl, next_b, turn_t 0 (by decide)]
  rfl
theorem turn_2 : turnL [] ⟨tl 1 33, bufQ [1, 2] 2 0, qq [0, 0, 0, 0, 0] 1, ⟨[], dv0⟩⟩ = (11, ⟨tl 1 33, bufQ [1, 2] 2 0, qq [1, 1, 0, 0, 0] 2, ⟨[], dv0⟩⟩) := by
  rw [turn_over]
  rfl
theorem page_0 : pageW (bufQ [1, 2] 2 0) 0 = List.replicate 32 0 := by
  unfold pageW bufQ BufM.frame
  rw [five32]
  rfl
theorem txt_size : txt.size = 280 := packS_size 0 (List.replicate 32 0)
theorem ask_1 : askR dv0 ⟨0, 0, true, txt⟩ = ((1, 0), dv1) := by
  unfold askR
  dsimp only
  rw [txt_size]
  rfl
theorem flush_1 : flushR [1, 1, 0, 0, 0] (bufQ [1, 2] 2 0) [] ⟨[], dv0⟩ 0 = ((1, 0), ⟨[(1, 0)], dv1⟩) := by
  unfold flushR
  rw [page_0, show packR 0 (List.replicate 32 0) = (txt, 0) from rfl]
  dsimp only
  rw [ask_1]
  rfl
theorem turn_3 : turnL [] ⟨tl 1 33, bufQ [1, 2] 2 0, qq [1, 1, 0, 0, 0] 2, ⟨[], dv0⟩⟩ = (11, ⟨tl 1 33, bufQ [1, 2] 2 0, qq [1, 1, 0, 0, 0] 2, ⟨[(1, 0)], dv1⟩⟩) := by
  rw [turn_over]
  unfold furtherR helpR
  dsimp only
  rw [show needR (tl 1 33) (bufQ [1, 2] 2 0) = 1 from rfl, show groundR (qq [1, 1, 0, 0, 0] 2).marks [] [] 1 = (0, true) from rfl]
  dsimp only
  rw [show (qq [1, 1, 0, 0, 0] 2).marks = [1, 1, 0, 0, 0] from rfl, flush_1]
  rfl
theorem do_1 : doR dv1 1 = (0, dv2) := rfl
theorem land_1 : landGo [1] ⟨[], [(1, 0)], dv2, 0⟩ = ⟨[(0, 1)], [], dv3, 1⟩ := rfl
theorem wipe_1 : wipeR [1, 1, 0, 0, 0] [(0, 1)] = ([], 1) := rfl
theorem raise_1 : raiseM [1, 1, 0, 0, 0] 2 1 1 = (0, [1, 1, 1, 0, 0]) := rfl
theorem turn_4 : turnL [] ⟨tl 1 33, bufQ [1, 2] 2 0, qq [1, 1, 1, 0, 0] 2, ⟨[], dv3⟩⟩ = (11, ⟨tl 1 33, bufQ [1, 2] 2 0, qq [1, 1, 1, 1, 1] 3, ⟨[], dv3⟩⟩) := by
  rw [turn_over]
  rfl
theorem turn_5 : turnL [] ⟨tl 1 33, bufQ [1, 2] 2 0, qq [1, 1, 1, 1, 1] 3, ⟨[], dv3⟩⟩ = (0, ⟨tl 2 0, bufQ [3, 2] 3 0, qq [1, 1, 1, 1, 1] 3, ⟨[], dv3⟩⟩) := by
  rw [turn_over]
  unfold furtherR
  dsimp only
  rw [show (tl 1 33).page + 1 = 2 from rfl, next_c, turn_t 1 (by decide)]
  rfl
theorem more_ok {t : TailM} {x y a b : Int} {l : List Int} {n : Int} {fly : NL} {dev : DevM} (hn : n < 1000000) (hl : fly.length ≤ 1000) (hd : DevOk dev) : MoreOk ⟨t, bufQ [x, y] a b, qq l n, ⟨fly, dev⟩⟩ := ⟨bufQ_ok _ _ _ _, hd, hl, Nat.zero_le _, hn, fun a ha => by cases ha⟩
theorem dv0_ok : DevOk dv0 := ⟨by decide, by decide, by decide⟩
theorem dv1_ok : DevOk dv1 := ⟨by decide, by decide, Nat.le_of_lt (by show 1 < 1000; decide)⟩
theorem dv3_ok : DevOk dv3 := ⟨by decide, by decide, by show 0 ≤ 1000; decide⟩
section
variable {S : SP} {w : World} {G : List HProp}
-- MACRO TAKE(qd, a, k, e) = (refine gC F.hlog_Log_Take ?_; refine p_call (dst := some qd) rfl rfl (hlog_Log_Take_spec (t := a) k (h.rf2)) ?_; rw [e]; rintro _ w ⟨rfl, h⟩)
-- MACRO TURN(qd, m, ok, e) = (refine gC F.hlog_Log_Turn ?_; refine p_call (dst := some qd) rfl rfl (hlog_Log_Turn_spec [] m ok (h.sub (.cons (by repeat first | exact .here | apply Has.there) (.cons (by repeat first | exact .here | apply Has.there) (.cons (by repeat first | exact .here | apply Has.there) (.cons (by repeat first | exact .here | apply Has.there) (.cons (by repeat first | exact .here | apply Has.there) (.cons (by repeat first | exact .here | apply Has.there) (.cons (by repeat first | exact .here | apply Has.there) (.cons (by repeat first | exact .here | apply Has.there) (.cons (by repeat first | exact .here | apply Has.there) (.cons (by repeat first | exact .here | apply Has.there) (.cons (by repeat first | exact .here | apply Has.there) (.cons (by repeat first | exact .here | apply Has.there) (.cons (by repeat first | exact .here | apply Has.there) (.cons (by repeat first | exact .here | apply Has.there) (.refl _))))))))))))))))) ?_; rw [e]; rintro _ w ⟨rfl, h⟩; dsimp only at h)
set_option maxHeartbeats 32000000 in
theorem law15_awake_spec (h : Sat S w G) : Ret Tryz.prog F.law15_awake #[] w (fun v w' => v = .bool true ∧ Sat S w' G) := by
  refine ret_of is_law15_awake rfl ?_
  repeat' (first | contradiction | (refine gC F.device_New ?_; refine p_call rfl rfl (device_New_spec h) ?_; rintro _ w ⟨dv, bb, jb, ab, rfl, h⟩) | (refine gC F.hlog_New ?_; refine p_call rfl rfl (hlog_New_made (dv := dv) 5 2 3 0 0 1 (by decide) (by decide) (by decide) (by decide) (by rw [bufQ_0]; exact bufQ_ok _ _ _ _) h) ?_; rw [bufQ_0, open_a]; rintro _ w ⟨lg, tb, tc, pb, pc, pd, mk, ep, du, fm, lq, rfl, h⟩) | (refine gC F.hlog_Log_Take ?_; refine p_call (dst := some 21) rfl rfl (hlog_Log_Take_spec (t := tl 0 1) 31 (h.rf2)) ?_; rw [take_1]; rintro _ w ⟨rfl, h⟩) | (refine gC F.hlog_Log_Take ?_; refine p_call (dst := some 23) rfl rfl (hlog_Log_Take_spec (t := tl 0 32) 1 (h.rf2)) ?_; rw [take_2]; rintro _ w ⟨rfl, h⟩) | (refine gC F.hlog_Log_Turn ?_; refine p_call (dst := some 25) rfl rfl (hlog_Log_Turn_spec [] ⟨tl 0 33, bufQ [1, 0] 1 0, qq [0, 0, 0, 0, 0] 1, ⟨[], dv0⟩⟩ (more_ok (by decide) (by decide) dv0_ok) (h.sub (.cons (by repeat first | exact .here | apply Has.there) (.cons (by repeat first | exact .here | apply Has.there) (.cons (by repeat first | exact .here | apply Has.there) (.cons (by repeat first | exact .here | apply Has.there) (.cons (by repeat first | exact .here | apply Has.there) (.cons (by repeat first | exact .here | apply Has.there) (.cons (by repeat first | exact .here | apply Has.there) (.cons (by repeat first | exact .here | apply Has.there) (.cons (by repeat first | exact .here | apply Has.there) (.cons (by repeat first | exact .here | apply Has.there) (.cons (by repeat first | exact .here | apply Has.there) (.cons (by repeat first | exact .here | apply Has.there) (.cons (by repeat first | exact .here | apply Has.there) (.cons (by repeat first | exact .here | apply Has.there) (.refl _))))))))))))))))) ?_; rw [turn_1]; rintro _ w ⟨rfl, h⟩; dsimp only at h) | (refine gC F.hlog_Log_Take ?_; refine p_call (dst := some 27) rfl rfl (hlog_Log_Take_spec (t := tl 1 0) 32 (h.rf2)) ?_; rw [take_3]; rintro _ w ⟨rfl, h⟩) | (refine gC F.hlog_Log_Take ?_; refine p_call (dst := some 29) rfl rfl (hlog_Log_Take_spec (t := tl 1 32) 1 (h.rf2)) ?_; rw [take_4]; rintro _ w ⟨rfl, h⟩) | (refine gC F.hlog_Log_Turn ?_; refine p_call (dst := some 31) rfl rfl (hlog_Log_Turn_spec [] ⟨tl 1 33, bufQ [1, 2] 2 0, qq [0, 0, 0, 0, 0] 1, ⟨[], dv0⟩⟩ (more_ok (by decide) (by decide) dv0_ok) (h.sub (.cons (by repeat first | exact .here | apply Has.there) (.cons (by repeat first | exact .here | apply Has.there) (.cons (by repeat first | exact .here | apply Has.there) (.cons (by repeat first | exact .here | apply Has.there) (.cons (by repeat first | exact .here | apply Has.there) (.cons (by repeat first | exact .here | apply Has.there) (.cons (by repeat first | exact .here | apply Has.there) (.cons (by repeat first | exact .here | apply Has.there) (.cons (by repeat first | exact .here | apply Has.there) (.cons (by repeat first | exact .here | apply Has.there) (.cons (by repeat first | exact .here | apply Has.there) (.cons (by repeat first | exact .here | apply Has.there) (.cons (by repeat first | exact .here | apply Has.there) (.cons (by repeat first | exact .here | apply Has.there) (.refl _))))))))))))))))) ?_; rw [turn_2]; rintro _ w ⟨rfl, h⟩; dsimp only at h) | (refine gC F.hlog_Log_Turn ?_; refine p_call (dst := some 33) rfl rfl (hlog_Log_Turn_spec [] ⟨tl 1 33, bufQ [1, 2] 2 0, qq [1, 1, 0, 0, 0] 2, ⟨[], dv0⟩⟩ (more_ok (by decide) (by decide) dv0_ok) (h.sub (.cons (by repeat first | exact .here | apply Has.there) (.cons (by repeat first | exact .here | apply Has.there) (.cons (by repeat first | exact .here | apply Has.there) (.cons (by repeat first | exact .here | apply Has.there) (.cons (by repeat first | exact .here | apply Has.there) (.cons (by repeat first | exact .here | apply Has.there) (.cons (by repeat first | exact .here | apply Has.there) (.cons (by repeat first | exact .here | apply Has.there) (.cons (by repeat first | exact .here | apply Has.there) (.cons (by repeat first | exact .here | apply Has.there) (.cons (by repeat first | exact .here | apply Has.there) (.cons (by repeat first | exact .here | apply Has.there) (.cons (by repeat first | exact .here | apply Has.there) (.cons (by repeat first | exact .here | apply Has.there) (.refl _))))))))))))))))) ?_; rw [turn_3]; rintro _ w ⟨rfl, h⟩; dsimp only at h) | (refine gC F.device_Device_Do ?_; refine p_call rfl rfl (device_Device_Do_spec dv1 1 (h.rf4)) ?_; rw [do_1]; rintro _ w ⟨rfl, h⟩) | (refine gC F.hlog_Log_Land ?_; refine p_call rfl rfl (hlog_Log_Land_spec (t := tl 1 33) (l := [1, 1, 0, 0, 0]) ⟨[], [(1, 0)], dv2, 0⟩ rfl (fun p hp => by cases hp) (fun p hp => by obtain rfl := List.mem_singleton.1 hp; decide) (by decide) (h.sub (.cons (by repeat first | exact .here | apply Has.there) (.cons (by repeat first | exact .here | apply Has.there) (.cons (by repeat first | exact .here | apply Has.there) (.cons (by repeat first | exact .here | apply Has.there) (.cons (by repeat first | exact .here | apply Has.there) (.cons (by repeat first | exact .here | apply Has.there) (.cons (by repeat first | exact .here | apply Has.there) (.cons (by repeat first | exact .here | apply Has.there) (.cons (by repeat first | exact .here | apply Has.there) (.refl _)))))))))))) ?_; rintro _ w ⟨m, hm, _, rfl, h⟩; obtain rfl := List.perm_singleton.1 hm; rw [land_1] at h ⊢; dsimp only at h; rw [wipe_1] at h; dsimp only at h) | (refine gC F.hlog_Log_Turn ?_; refine p_call (dst := some 39) rfl rfl (hlog_Log_Turn_spec [] ⟨tl 1 33, bufQ [1, 2] 2 0, qq [1, 1, 1, 0, 0] 2, ⟨[], dv3⟩⟩ (more_ok (by decide) (by decide) dv3_ok) (h.sub (.cons (by repeat first | exact .here | apply Has.there) (.cons (by repeat first | exact .here | apply Has.there) (.cons (by repeat first | exact .here | apply Has.there) (.cons (by repeat first | exact .here | apply Has.there) (.cons (by repeat first | exact .here | apply Has.there) (.cons (by repeat first | exact .here | apply Has.there) (.cons (by repeat first | exact .here | apply Has.there) (.cons (by repeat first | exact .here | apply Has.there) (.cons (by repeat first | exact .here | apply Has.there) (.cons (by repeat first | exact .here | apply Has.there) (.cons (by repeat first | exact .here | apply Has.there) (.cons (by repeat first | exact .here | apply Has.there) (.cons (by repeat first | exact .here | apply Has.there) (.cons (by repeat first | exact .here | apply Has.there) (.refl _))))))))))))))))) ?_; rw [turn_4]; rintro _ w ⟨rfl, h⟩; dsimp only at h) | (refine gC F.hlog_Log_Turn ?_; refine p_call (dst := some 41) rfl rfl (hlog_Log_Turn_spec [] ⟨tl 1 33, bufQ [1, 2] 2 0, qq [1, 1, 1, 1, 1] 3, ⟨[], dv3⟩⟩ (more_ok (by decide) (by decide) dv3_ok) (h.sub (.cons (by repeat first | exact .here | apply Has.there) (.cons (by repeat first | exact .here | apply Has.there) (.cons (by repeat first | exact .here | apply Has.there) (.cons (by repeat first | exact .here | apply Has.there) (.cons (by repeat first | exact .here | apply Has.there) (.cons (by repeat first | exact .here | apply Has.there) (.cons (by repeat first | exact .here | apply Has.there) (.cons (by repeat first | exact .here | apply Has.there) (.cons (by repeat first | exact .here | apply Has.there) (.cons (by repeat first | exact .here | apply Has.there) (.cons (by repeat first | exact .here | apply Has.there) (.cons (by repeat first | exact .here | apply Has.there) (.cons (by repeat first | exact .here | apply Has.there) (.cons (by repeat first | exact .here | apply Has.there) (.refl _))))))))))))))))) ?_; rw [turn_5]; rintro _ w ⟨rfl, h⟩; dsimp only at h) | refine stP ?_ | (refine stC0_W15 ?_; rintro _ w ⟨d, bb, jb, ab, rfl, h⟩) | (refine stC1_W15 ?_; rintro _ w ⟨rfl, h⟩) | (refine stC2_W15 ?_; rintro _ w ⟨m, hq1, hq2, rfl, h⟩) | (refine p_cmp rfl rfl rfl rfl (fun hc => ?_) (fun hc => ?_) <;> simp only [cmpProp] at hc) | fail)
  exact x_ret' is_law15_awake rfl ⟨rfl, h.drop.drop.drop.drop.drop.drop.drop.drop.drop.drop.drop.drop.drop.drop⟩
set_option maxHeartbeats 8000000 in
theorem law15_HlogNil_spec (bits frames space bk sp sess n : Int) (h : Sat S w G) : Ret Tryz.prog F.law15_HlogNil #[.agg #[.int .i64 bits, .int .i64 frames, .int .i64 space, .int .i64 bk, .int .i64 sp, .int .i64 sess], .int .i64 n] w (fun v w' => v = .bool true ∧ Sat S w' []) := by
  refine ret_of is_law15_HlogNil rfl ?_
  repeat' (first | contradiction | (refine gC F.law15_awake ?_; refine p_call rfl rfl (law15_awake_spec h) ?_; rintro _ w ⟨rfl, h⟩) | refine stP ?_ | (refine stC1_W15 ?_; rintro _ w ⟨rfl, h⟩) | (refine stC2_W15 ?_; rintro _ w ⟨m, hq1, hq2, rfl, h⟩) | (refine stC3_W15 ?_; rintro _ w ⟨(⟨rfl, hb⟩ | ⟨rfl, hb⟩), h⟩) | (refine stC4_W15 ?_; rintro _ w ⟨bx, rfl, h⟩) | (refine p_cmp rfl rfl rfl rfl (fun hc => ?_) (fun hc => ?_) <;> simp only [cmpProp] at hc) | fail)
  exact x_ret' is_law15_HlogNil rfl ⟨rfl, h.nil⟩
abbrev cfgTy : Ty := .st (.pair (.int .i64) (.pair (.int .i64) (.pair (.int .i64) (.pair (.int .i64) (.pair (.int .i64) (.pair (.int .i64) .unit))))))
theorem HlogNil_law (cs0 : Array Value) (a1 : Int) (W : World) (w0 : Arg W cfgTy cs0.toList) (_w1 : (Lit.int .i64 a1).wf = true) : Ret Tryz.prog F.law15_HlogNil #[.agg cs0, .int .i64 a1] W (fun v w' => v = .bool true ∧ Sat ⟨W.heap.size, W⟩ w' []) := by
  obtain ⟨_, _, e, ⟨b, rfl, _⟩, _, _, rfl, ⟨f, rfl, _⟩, _, _, rfl, ⟨s, rfl, _⟩, _, _, rfl, ⟨k, rfl, _⟩, _, _, rfl, ⟨p, rfl, _⟩, _, _, rfl, ⟨n, rfl, _⟩, h⟩ := w0
  obtain rfl : _ = [] := h
  obtain rfl : cs0 = #[.int .i64 b, .int .i64 f, .int .i64 s, .int .i64 k, .int .i64 p, .int .i64 n] := by cases cs0; simpa using e
  exact law15_HlogNil_spec b f s k p n a1 (Sat.begin W)
end
end Go.Proofs.YtflbfdmmfoigaaaGreat
