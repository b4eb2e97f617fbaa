/- Layer 15 (hlog): what a log has, and what is due. -/
import Derived.Test.YtflbfdmmfoigaaaGreatHxS
import Derived.Test.YtflbfdmmfoigaaaGreatP15k
import Derived.Test.YtflbfdmmfoigaaaGreatP15n
import Derived.Test.YtflbfdmmfoigaaaGreatP10
import Derived.Test.YtflbfdmmfoigaaaGreatP14
import Derived.Test.YtflbfdmmfoigaaaGreatP13
import Derived.Test.YtflbfdmmfoigaaaGreatP06
import Derived.Test.YtflbfdmmfoigaaaGreatP07
import Derived.Test.YtflbfdmmfoigaaaGreatP12p
import Derived.Test.YtflbfdmmfoigaaaGreatP11b
namespace Go.Proofs.YtflbfdmmfoigaaaGreat
open Go Go.HX
attribute [local irreducible] Ret XRun XOps XDr XOne Does Gives
set_option maxRecDepth 4000
set_option maxHeartbeats 1000000
theorem stD0_P15 {goal next : Prop} (k : next) (hs : Hid next → goal := by (intro k; (first | (refine gCR F.tail_Tail_Page ?_; refine r_call rfl rfl rfl (tail_Tail_Page_spec (h.rf1)) ?_) | (refine gCR F.tail_Tail_Page ?_; refine r_call rfl rfl rfl (tail_Tail_Page_nil h) ?_) | (refine gCR F.pages_Buffer_Frames ?_; refine r_call rfl rfl rfl (pages_Buffer_Frames_nil h) ?_) | (refine gCR F.pages_Buffer_Frames ?_; refine r_call rfl rfl rfl (pages_Buffer_Frames_spec (h.rf3)) ?_) | (refine gCR F.epoch_Table_Safe ?_; refine r_call rfl rfl rfl (epoch_Table_Safe_nil h) ?_) | (refine gCR F.epoch_Table_Safe ?_; refine r_call rfl rfl rfl (epoch_Table_Safe_spec (h.rf1)) ?_) | (refine gCR F.drain_List_Ready ?_; refine r_call rfl rfl rfl (drain_List_Ready_nil _ h) ?_) | (refine gCR F.marks_Set_Raise ?_; refine r_call rfl rfl rfl (marks_Set_Raise_spec _ _ _ ?_ (h.rf1)) ?_; iterate 1 (first | assumption | omega | (simp only []; omega) | decide)) | (refine gCR F.marks_Set_Raise ?_; refine r_call rfl rfl rfl (marks_Set_Raise_nil _ _ _ h) ?_) | fail); exact k.out)) : goal := hs ⟨k⟩
theorem stC1_P15 {goal next : Prop} (k : next) (hs : Hid next → goal := by (intro k; (first | (refine gC F.maps_Values_map_int_int_int_int ?_; refine p_call rfl rfl (maps_Values_map_int_int_int_int_spec _ (h.rf1)) ?_) | fail); exact k.out)) : goal := hs ⟨k⟩
theorem stC2_P15 {goal next : Prop} (k : next) (hs : Hid next → goal := by (intro k; (first | (refine gC F.slices_Collect_int ?_; refine p_call rfl rfl (slices_Collect_int_spec _ ?_ (h.rf2)) ?_; iterate 1 (first | assumption | omega | (simp only []; omega) | decide)) | fail); exact k.out)) : goal := hs ⟨k⟩
theorem stC3_P15 {goal next : Prop} (k : next) (hs : Hid next → goal := by (intro k; (first | (refine gC F.slices_Contains_int_int ?_; refine p_call rfl rfl (slices_Contains_int_int_spec _ _ ?_ (h.rf1)) ?_; iterate 1 (first | assumption | omega | (simp only []; omega) | decide)) | fail); exact k.out)) : goal := hs ⟨k⟩
theorem stC4_P15 {goal next : Prop} (k : next) (hs : Hid next → goal := by (intro k; (first | (refine gN ?_; refine p_do rfl (d_newL h (by first | (dsimp only [Value.cells]; done) | exact rfl)) ?_) | fail); exact k.out)) : goal := hs ⟨k⟩
theorem stC5_P15 {goal next : Prop} (k : next) (hs : Hid next → goal := by (intro k; (first | (refine gS ?_; (first | refine p_do rfl (d_stwL rfl rfl rfl rfl rfl (h.pick (by repeat first | exact .here | apply Has.there)) (by first | (dsimp only [Value.cells]; done) | exact rfl)) ?_ | refine p_do rfl (d_stL rfl rfl rfl (h.pick (by repeat first | exact .here | apply Has.there)) (by first | exact of_decide_eq_true rfl | simp) (by first | (dsimp only [List.set]; done) | exact rfl)) ?_)) | (refine gC F.drain_List_Len ?_; refine p_call rfl rfl (drain_List_Len_spec ?_ (h.rf1)) ?_; iterate 1 (first | assumption | omega | (simp only []; omega) | decide)) | (refine gC F.drain_List_Len ?_; refine p_call rfl rfl (drain_List_Len_nil h) ?_) | (refine gC F.epoch_Table_Bump ?_; refine p_call rfl rfl (epoch_Table_Bump_spec ?_ (h.rf1)) ?_; iterate 1 (first | assumption | omega | (simp only []; omega) | decide)) | (refine gC F.epoch_Table_Bump ?_; refine p_call rfl rfl (epoch_Table_Bump_nil h) ?_) | (refine gC F.drain_List_Put ?_; refine p_call rfl rfl (drain_List_Put_spec _ ?_ (h.rf1)) ?_; iterate 1 (first | assumption | omega | (simp only []; omega) | decide)) | (refine gC F.drain_List_Put ?_; refine p_call rfl rfl (drain_List_Put_nil _ h) ?_) | (refine gC F.hlog_Log_Settle ?_; refine p_call rfl rfl (hlog_Log_Settle_nil h) ?_) | fail); exact k.out)) : goal := hs ⟨k⟩
theorem stD6_P15 {goal next : Prop} (k : next) (hs : Hid next → goal := by (intro k; (first | (refine gCR F.drain_List_Ready ?_; refine r_call rfl rfl rfl (drain_List_Ready_spec _ ?_ (h.rf1)) ?_; iterate 1 (first | assumption | omega | (simp only []; omega) | decide)) | fail); exact k.out)) : goal := hs ⟨k⟩
structure LogM where
  tail : TailM
  pages : BufM
  marks : List Int
  epoch : TabM
  due : List ActM
  dev : DevM
  fly : NL
  land : NL
-- MACRO LG() = pt lg (.cells #[.pointer (some ⟨tb, 0, none⟩), .pointer (some ⟨pb, 0, none⟩), .pointer (some ⟨mk, 0, none⟩), .pointer (some ⟨ep, 0, none⟩), .pointer (some ⟨du, 0, none⟩), .pointer (some ⟨dv, 0, none⟩), .map (some fm), .map (some lq)] T.hlog_Log (0, 0))
-- MACRO LP(y) = pt pb (.cells (bufC (y) pc pd) T.pages_Buffer (0, 0)) :: isRow pc (y).wr :: isRow pd (y).hr
-- MACRO LV(y) = pt dv (.cells #[.bool (y).off, .map (some bb), .map (some jb), .map (some ab), .int .i64 (y).last] T.device_Device (0, 0)) :: isMap encB bb (bkv (y).blks) :: isMap encI jb (jkv (y).jobs) :: isMap encI ab (akv (y).anss)
def needR (t : TailM) (b : BufM) : Int := max 0 (t.page + 2 - b.hr.ws.length)
def flyR (fly : NL) (p : Int) : Prop := p ∈ fly.map (·.2)
section
variable {S : SP} {w : World} {G : List HProp}
theorem hlog_Log_need_spec {lg tb tc pb pc pd mk ep du dv fm lq : Nat} {t : TailM} {y : BufM} (hok : BufOk y) (h : Sat S w (pt lg (.cells #[.pointer (some ⟨tb, 0, none⟩), .pointer (some ⟨pb, 0, none⟩), .pointer (some ⟨mk, 0, none⟩), .pointer (some ⟨ep, 0, none⟩), .pointer (some ⟨du, 0, none⟩), .pointer (some ⟨dv, 0, none⟩), .map (some fm), .map (some lq)] T.hlog_Log (0, 0)) :: isTail tb tc t :: pt pb (.cells (bufC (y) pc pd) T.pages_Buffer (0, 0)) :: isRow pc (y).wr :: isRow pd (y).hr :: G)) :
    Ret Tryz.prog F.hlog_Log_need #[.pointer (some ⟨lg, 0, none⟩)] w (fun v w' => v = .int .i64 (needR t y) ∧ Sat S w' (pt lg (.cells #[.pointer (some ⟨tb, 0, none⟩), .pointer (some ⟨pb, 0, none⟩), .pointer (some ⟨mk, 0, none⟩), .pointer (some ⟨ep, 0, none⟩), .pointer (some ⟨du, 0, none⟩), .pointer (some ⟨dv, 0, none⟩), .map (some fm), .map (some lq)] T.hlog_Log (0, 0)) :: isTail tb tc t :: pt pb (.cells (bufC (y) pc pd) T.pages_Buffer (0, 0)) :: isRow pc (y).wr :: isRow pd (y).hr :: G)) := by
  refine ret_of is_hlog_Log_need rfl ?_
  obtain ⟨_, _, htb, _⟩ := isTail_open (h.pick (.there .here))
  have hfw := hok.few
  obtain ⟨_, _, htb1, htb2, htb3, _⟩ := htb
  repeat' (first | (refine gCR F.tail_Tail_Page ?_; refine r_call rfl rfl rfl (tail_Tail_Page_spec (h.rf1)) ?_; rintro _ w ⟨rfl, h⟩; refine nowa ?_) | (refine gCR F.pages_Buffer_Frames ?_; refine r_call rfl rfl rfl (pages_Buffer_Frames_spec (x := y) (h.rf3)) ?_; rintro _ w ⟨rfl, h⟩; refine nowa ?_) | refine stP ?_ | (refine stD0_P15 ?_; rintro _ w ⟨rfl, h⟩ <;> refine nowa ?_) | (refine x_drawn rfl ?_; have h := h.drew) | refine x_drawn rfl ?_ | fail)
  exact x_ret' is_hlog_Log_need rfl ⟨rfl, h.pm5⟩
theorem hlog_Log_Flying_spec {lg tb pb mk ep du dv fm lq : Nat} (fly : NL) (p : Int) (hl : fly.length ≤ 1000) (h : Sat S w (pt lg (.cells #[.pointer (some ⟨tb, 0, none⟩), .pointer (some ⟨pb, 0, none⟩), .pointer (some ⟨mk, 0, none⟩), .pointer (some ⟨ep, 0, none⟩), .pointer (some ⟨du, 0, none⟩), .pointer (some ⟨dv, 0, none⟩), .map (some fm), .map (some lq)] T.hlog_Log (0, 0)) :: isMap encI fm (nkv fly) :: G)) :
    Ret Tryz.prog F.hlog_Log_Flying #[.pointer (some ⟨lg, 0, none⟩), .int .i64 p] w (fun v w' => BoolIs v (flyR fly p) ∧ Sat S w' (pt lg (.cells #[.pointer (some ⟨tb, 0, none⟩), .pointer (some ⟨pb, 0, none⟩), .pointer (some ⟨mk, 0, none⟩), .pointer (some ⟨ep, 0, none⟩), .pointer (some ⟨du, 0, none⟩), .pointer (some ⟨dv, 0, none⟩), .map (some fm), .map (some lq)] T.hlog_Log (0, 0)) :: isMap encI fm (nkv fly) :: G)) := by
  refine ret_of is_hlog_Log_Flying rfl ?_
  repeat' (first | contradiction | (refine gC F.maps_Values_map_int_int_int_int ?_; refine p_call rfl rfl (maps_Values_map_int_int_int_int_spec fly (h.rf1)) ?_; rintro _ w ⟨bm, rfl, h⟩) | (refine gC F.slices_Collect_int ?_; refine p_call rfl rfl (collect_values fly hl (h.rf2)) ?_; rintro v w ⟨xs, hxs, h⟩) | (refine gC F.slices_Contains_int_int ?_; refine p_call rfl rfl (slices_Contains_int_int_spec xs p (by have := hxs.length_eq; rw [List.length_map] at this; omega) (h.rf1)) ?_; rw [show (p ∈ xs) = flyR fly p from propext hxs.mem_iff]; rintro _ w ⟨(⟨rfl, hb⟩ | ⟨rfl, hb⟩), h⟩) | refine stP ?_ | (refine stC1_P15 ?_; rintro _ w ⟨bm, rfl, h⟩) | (refine stC2_P15 ?_; rintro v w ⟨xs, hq1, h⟩) | (refine stC3_P15 ?_; rintro _ w ⟨(⟨rfl, hb⟩ | ⟨rfl, hb⟩), h⟩) | fail)
  · exact x_ret' is_hlog_Log_Flying rfl ⟨.t hb, h.pm2⟩
  · exact x_ret' is_hlog_Log_Flying rfl ⟨.f hb, h.pm2⟩
def settleM (pg : Int) (l : List Int) (acts : List ActM) : List Int := acts.foldl (fun l a => (raiseM l (if a.kind = 1 then 1 else 4) a.page pg).2) l
theorem settle_next (pg : Int) (l : List Int) (acts : List ActM) (a : ActM) : settleM pg l (acts ++ [a]) = (raiseM (settleM pg l acts) (if a.kind = 1 then 1 else 4) a.page pg).2 := by
  unfold settleM
  rw [List.foldl_append]
  rfl
set_option maxHeartbeats 8000000 in
theorem hlog_Log_Settle_spec {lg tb tc pb mk ep du dv fm lq : Nat} {t : TailM} {l : List Int} {e : TabM} {due : List ActM} (hl : due.length ≤ 1000) (hp : ∀ a ∈ due, a.page ≤ 9223372036854775807) (h : Sat S w (pt lg (.cells #[.pointer (some ⟨tb, 0, none⟩), .pointer (some ⟨pb, 0, none⟩), .pointer (some ⟨mk, 0, none⟩), .pointer (some ⟨ep, 0, none⟩), .pointer (some ⟨du, 0, none⟩), .pointer (some ⟨dv, 0, none⟩), .map (some fm), .map (some lq)] T.hlog_Log (0, 0)) :: isTail tb tc t :: isSet mk l :: isTab ep e :: isList du due :: G)) :
    Ret Tryz.prog F.hlog_Log_Settle #[.pointer (some ⟨lg, 0, none⟩)] w (fun v w' => v = .int .i64 (dueL (safeT e) due).length ∧ Sat S w' (pt lg (.cells #[.pointer (some ⟨tb, 0, none⟩), .pointer (some ⟨pb, 0, none⟩), .pointer (some ⟨mk, 0, none⟩), .pointer (some ⟨ep, 0, none⟩), .pointer (some ⟨du, 0, none⟩), .pointer (some ⟨dv, 0, none⟩), .map (some fm), .map (some lq)] T.hlog_Log (0, 0)) :: isTail tb tc t :: isSet mk (settleM t.page l (dueL (safeT e) due)) :: isTab ep e :: isList du (restL (safeT e) due) :: G)) := by
  refine ret_of is_hlog_Log_Settle rfl ?_
  repeat' (first | contradiction | (refine gCR F.epoch_Table_Safe ?_; refine r_call rfl rfl rfl (epoch_Table_Safe_spec (h.rf1)) ?_; rintro _ w ⟨rfl, h⟩; refine nowa ?_) | (refine gCR F.drain_List_Ready ?_; refine r_call rfl rfl rfl (drain_List_Ready_spec (l := due) (safeT e) (by omega) (h.rf1)) ?_; rintro v w h; obtain ⟨ra, rl, rc, rfl, hrl, _⟩ := ownS_slice h .here; rw [rows_length actC_len] at hrl; refine nowa ?_) | refine stP ?_ | (refine stC4_P15 ?_; rintro _ w ⟨bx, rfl, h⟩) | (refine stC5_P15 ?_; rintro _ w ⟨rfl, h⟩) | (refine stD0_P15 ?_; rintro _ w ⟨rfl, h⟩ <;> refine nowa ?_) | (refine stD6_P15 ?_; rintro v w h <;> refine nowa ?_) | (refine p_cmp rfl rfl rfl rfl (fun hc => ?_) (fun hc => ?_) <;> simp only [cmpProp] at hc) | (refine r_cmp rfl rfl rfl rfl rfl (fun hc => ?_) (fun hc => ?_) <;> simp only [cmpProp] at hc) | (refine x_drawn rfl ?_; have h := h.drew) | refine x_drawn rfl ?_ | fail)
  obtain ⟨D, hD⟩ : ∃ D, dueL (safeT e) due = D := ⟨_, rfl⟩
  have hpD : ∀ a ∈ D, a.page ≤ 9223372036854775807 := fun a ha => by
    rw [← hD] at ha
    exact hp a (List.mem_filter.1 ha).1
  have hDl : D.length ≤ 1000 := by
    rw [← hD]
    exact Nat.le_trans (List.length_filter_le _ _) hl
  rw [hD] at h hrl ⊢
  refine x_keep [0, 3, 18, 19, 20] rfl ?_
  refine x_loop_inv (fun lm le w => ∃ (i : Nat), lm = rl - i ∧ i ≤ rl ∧ le = [(0, .pointer (some ⟨lg, 0, none⟩)), (3, .slice ra rl rc), (18, .slice ra rl rc), (19, .int .i64 rl), (20, .int .i64 i)] ∧ Sat S w (ownS T.api_Action 3 (.slice ra rl rc) (rows actC D) :: pt lg (.cells #[.pointer (some ⟨tb, 0, none⟩), .pointer (some ⟨pb, 0, none⟩), .pointer (some ⟨mk, 0, none⟩), .pointer (some ⟨ep, 0, none⟩), .pointer (some ⟨du, 0, none⟩), .pointer (some ⟨dv, 0, none⟩), .map (some fm), .map (some lq)] T.hlog_Log (0, 0)) :: isTail tb tc t :: isSet mk (settleM t.page l (D.take i)) :: isTab ep e :: isList du (restL (safeT e) due) :: G)) (rl) ⟨0, rfl, by omega, rfl, h.pm6⟩ ?_
  clear h
  rintro lm le w ⟨i, rfl, hi0, rfl, h⟩ ih
  by_cases hi : i < rl
  · obtain ⟨a, ha⟩ := has_elem (show i < D.length by omega)
    obtain ⟨rb, rfl⟩ := ownS_addr (E := T.api_Action) h .here (by omega)
    have hpa := hpD a (List.mem_of_getElem? ha)
    have hnx := settle_next t.page l (D.take i) a
    rw [← take_next ha] at hnx
    obtain ⟨aep, ak, apg⟩ := a
    dsimp only at hpa hnx
    by_cases k1 : ak = 1
    · rw [if_pos k1] at hnx
      repeat' (first | contradiction | (refine gL ?_; refine p_val (dst := some 23) rfl (g_ldE (i := i) actC_len rfl (ownS_rd h .here) ha (by omega)) ?_) | refine stP ?_ | (refine stC4_P15 ?_; rintro _ w ⟨bx, rfl, h⟩) | (refine stC5_P15 ?_; rintro _ w ⟨rfl, h⟩) | (refine stD0_P15 ?_; rintro _ w ⟨rfl, h⟩ <;> refine nowa ?_) | (refine stD6_P15 ?_; rintro v w h <;> refine nowa ?_) | (refine p_cmp rfl rfl rfl rfl (fun hc => ?_) (fun hc => ?_) <;> simp only [cmpProp] at hc) | (refine r_cmp rfl rfl rfl rfl rfl (fun hc => ?_) (fun hc => ?_) <;> simp only [cmpProp] at hc) | (refine x_drawn rfl ?_; have h := h.drew) | refine x_drawn rfl ?_ | fail)
      dsimp only at h
      rw [← hnx] at h
      exact x_keep [0, 3, 18, 19, 20] rfl (ih _ _ _ (by omega) ⟨i + 1, rfl, by omega, rfl, h.pm6⟩)
    · rw [if_neg k1] at hnx
      repeat' (first | contradiction | (refine gL ?_; refine p_val (dst := some 23) rfl (g_ldE (i := i) actC_len rfl (ownS_rd h .here) ha (by omega)) ?_) | refine stP ?_ | (refine stC4_P15 ?_; rintro _ w ⟨bx, rfl, h⟩) | (refine stC5_P15 ?_; rintro _ w ⟨rfl, h⟩) | (refine stD0_P15 ?_; rintro _ w ⟨rfl, h⟩ <;> refine nowa ?_) | (refine stD6_P15 ?_; rintro v w h <;> refine nowa ?_) | (refine p_cmp rfl rfl rfl rfl (fun hc => ?_) (fun hc => ?_) <;> simp only [cmpProp] at hc) | (refine r_cmp rfl rfl rfl rfl rfl (fun hc => ?_) (fun hc => ?_) <;> simp only [cmpProp] at hc) | (refine x_drawn rfl ?_; have h := h.drew) | refine x_drawn rfl ?_ | fail)
      dsimp only at h
      rw [← hnx] at h
      exact x_keep [0, 3, 18, 19, 20] rfl (ih _ _ _ (by omega) ⟨i + 1, rfl, by omega, rfl, h.pm6⟩)
  · obtain rfl : i = rl := by omega
    rw [List.take_of_length_le (by omega)] at h
    repeat' (first | refine stPs ?_ | (refine stC4_P15 ?_; rintro _ w ⟨bx, rfl, h⟩) | (refine stC5_P15 ?_; rintro _ w ⟨rfl, h⟩) | (refine stD0_P15 ?_; rintro _ w ⟨rfl, h⟩ <;> refine nowa ?_) | (refine stD6_P15 ?_; rintro v w h <;> refine nowa ?_) | (refine p_cmp rfl rfl rfl rfl (fun hc => ?_) (fun hc => ?_) <;> simp only [cmpProp] at hc) | (refine r_cmp rfl rfl rfl rfl rfl (fun hc => ?_) (fun hc => ?_) <;> simp only [cmpProp] at hc) | (refine x_drawn rfl ?_; have h := h.drew) | refine x_drawn rfl ?_ | fail)
    exact x_ret' is_hlog_Log_Settle rfl ⟨by rw [show ((D.length : Nat) : Int) = (i : Int) by omega]; rfl, h.pm5⟩
/-- Marks, epochs and what is due. -/
structure DueM where
  marks : List Int
  epoch : TabM
  due : List ActM
def settleD (pg : Int) (y : DueM) : DueM := ⟨settleM pg y.marks (dueL (safeT y.epoch) y.due), y.epoch, restL (safeT y.epoch) y.due⟩
def shiftR (pg : Int) (y : DueM) (mark page kind : Int) : Int × DueM :=
  if 16 ≤ y.due.length then (9, y)
  else if (raiseM y.marks mark page pg).1 ≠ 0 then ((raiseM y.marks mark page pg).1, y)
  else (0, settleD pg ⟨(raiseM y.marks mark page pg).2, ⟨y.epoch.now + 1, y.epoch.seen⟩, y.due ++ [⟨y.epoch.now, kind, page⟩]⟩)
theorem raise_no {l : List Int} {k to pg : Int} (h : (raiseM l k to pg).1 ≠ 0) : (raiseM l k to pg).2 = l := by
  unfold raiseM at h ⊢
  split
  · rfl
  split
  · rfl
  split
  · rfl
  · rename_i h1 h2 h3
    rw [if_neg h1, if_neg h2, if_neg h3] at h
    exact absurd rfl h
-- MACRO LE(y) = isSet mk (y).marks :: isTab ep (y).epoch :: isList du (y).due
set_option maxHeartbeats 8000000 in
theorem hlog_Log_shift_spec {lg tb tc pb mk ep du dv fm lq : Nat} {t : TailM} (y : DueM) (mark page kind : Int) (hpg : page ≤ 9223372036854775807) (hdl : y.due.length ≤ 900) (hn : y.epoch.now < 1000000) (hp : ∀ a ∈ y.due, a.page ≤ 9223372036854775807) (h : Sat S w (pt lg (.cells #[.pointer (some ⟨tb, 0, none⟩), .pointer (some ⟨pb, 0, none⟩), .pointer (some ⟨mk, 0, none⟩), .pointer (some ⟨ep, 0, none⟩), .pointer (some ⟨du, 0, none⟩), .pointer (some ⟨dv, 0, none⟩), .map (some fm), .map (some lq)] T.hlog_Log (0, 0)) :: isTail tb tc t :: isSet mk (y).marks :: isTab ep (y).epoch :: isList du (y).due :: G)) :
    Ret Tryz.prog F.hlog_Log_shift #[.pointer (some ⟨lg, 0, none⟩), .int .i64 mark, .int .i64 page, .int .i64 kind] w (fun v w' => v = .int .i64 (shiftR t.page y mark page kind).1 ∧ Sat S w' (pt lg (.cells #[.pointer (some ⟨tb, 0, none⟩), .pointer (some ⟨pb, 0, none⟩), .pointer (some ⟨mk, 0, none⟩), .pointer (some ⟨ep, 0, none⟩), .pointer (some ⟨du, 0, none⟩), .pointer (some ⟨dv, 0, none⟩), .map (some fm), .map (some lq)] T.hlog_Log (0, 0)) :: isTail tb tc t :: isSet mk ((shiftR t.page y mark page kind).2).marks :: isTab ep ((shiftR t.page y mark page kind).2).epoch :: isList du ((shiftR t.page y mark page kind).2).due :: G)) := by
  obtain ⟨l, e, due⟩ := y
  dsimp only at hn hp hdl h
  unfold shiftR
  dsimp only
  refine ret_of is_hlog_Log_shift rfl ?_
  by_cases hd : 16 ≤ due.length
  · rw [if_pos hd]
    repeat' (first | contradiction | (refine gC F.drain_List_Len ?_; refine p_call rfl rfl (drain_List_Len_spec (l := due) (by omega) (h.rf1)) ?_; rintro _ w ⟨rfl, h⟩) | refine stP ?_ | (refine stC5_P15 ?_; rintro _ w ⟨rfl, h⟩) | (refine stD0_P15 ?_; rintro _ w ⟨rfl, h⟩ <;> refine nowa ?_) | (refine p_cmp rfl rfl rfl rfl (fun hc => ?_) (fun hc => ?_) <;> simp only [cmpProp] at hc) | (refine r_cmp rfl rfl rfl rfl rfl (fun hc => ?_) (fun hc => ?_) <;> simp only [cmpProp] at hc) | (refine x_drawn rfl ?_; have h := h.drew) | refine x_drawn rfl ?_ | fail)
    all_goals first | (exfalso; omega) | exact x_ret' is_hlog_Log_shift rfl ⟨rfl, h.pm5⟩
  rw [if_neg hd]
  have hr0 := raise_no (l := l) (k := mark) (to := page) (pg := t.page)
  generalize hR : raiseM l mark page t.page = R at hr0
  obtain ⟨r1, l'⟩ := R
  dsimp only at hr0 ⊢
  by_cases hr : r1 ≠ 0
  · rw [if_pos hr]
    have hr0 := hr0 hr
    subst hr0
    repeat' (first | contradiction | (refine gC F.drain_List_Len ?_; refine p_call rfl rfl (drain_List_Len_spec (l := due) (by omega) (h.rf1)) ?_; rintro _ w ⟨rfl, h⟩) | (refine gCR F.marks_Set_Raise ?_; refine r_call rfl rfl rfl (marks_Set_Raise_spec mark page t.page hpg (h.rf1)) ?_; rw [hR]; rintro _ w ⟨rfl, h⟩; refine nowa ?_) | refine stP ?_ | (refine stC5_P15 ?_; rintro _ w ⟨rfl, h⟩) | (refine stD0_P15 ?_; rintro _ w ⟨rfl, h⟩ <;> refine nowa ?_) | (refine p_cmp rfl rfl rfl rfl (fun hc => ?_) (fun hc => ?_) <;> simp only [cmpProp] at hc) | (refine r_cmp rfl rfl rfl rfl rfl (fun hc => ?_) (fun hc => ?_) <;> simp only [cmpProp] at hc) | (refine x_drawn rfl ?_; have h := h.drew) | refine x_drawn rfl ?_ | fail)
    exact x_ret' is_hlog_Log_shift rfl ⟨rfl, h.pm5⟩
  · obtain rfl : r1 = 0 := by omega
    rw [if_neg hr]
    have hp2 : ∀ a ∈ due ++ [(⟨e.now, kind, page⟩ : ActM)], a.page ≤ 9223372036854775807 := fun a ha => by
      rcases List.mem_append.1 ha with ha | ha
      · exact hp a ha
      · rw [List.mem_singleton.1 ha]
        exact hpg
    repeat' (first | contradiction | (refine gC F.drain_List_Len ?_; refine p_call rfl rfl (drain_List_Len_spec (l := due) (by omega) (h.rf1)) ?_; rintro _ w ⟨rfl, h⟩) | (refine gCR F.marks_Set_Raise ?_; refine r_call rfl rfl rfl (marks_Set_Raise_spec mark page t.page hpg (h.rf1)) ?_; rw [hR]; rintro _ w ⟨rfl, h⟩; refine nowa ?_) | (refine gC F.epoch_Table_Bump ?_; refine p_call rfl rfl (epoch_Table_Bump_spec hn (h.rf1)) ?_; rintro _ w ⟨rfl, h⟩) | (refine gC F.drain_List_Put ?_; refine p_call rfl rfl (drain_List_Put_spec (l := due) ⟨e.now, kind, page⟩ (by omega) (h.rf1)) ?_; rw [if_neg hd, if_neg hd]; rintro _ w ⟨rfl, h⟩) | (refine gC F.hlog_Log_Settle ?_; refine p_call rfl rfl (hlog_Log_Settle_spec (due := due ++ [⟨e.now, kind, page⟩]) (by rw [List.length_append, List.length_singleton]; omega) hp2 (h.rf5)) ?_; rintro _ w ⟨rfl, h⟩) | refine stP ?_ | (refine stC5_P15 ?_; rintro _ w ⟨rfl, h⟩) | (refine stD0_P15 ?_; rintro _ w ⟨rfl, h⟩ <;> refine nowa ?_) | (refine p_cmp rfl rfl rfl rfl (fun hc => ?_) (fun hc => ?_) <;> simp only [cmpProp] at hc) | (refine r_cmp rfl rfl rfl rfl rfl (fun hc => ?_) (fun hc => ?_) <;> simp only [cmpProp] at hc) | (refine x_drawn rfl ?_; have h := h.drew) | refine x_drawn rfl ?_ | fail)
    exact x_ret' is_hlog_Log_shift rfl ⟨rfl, h.pm5⟩
end
end Go.Proofs.YtflbfdmmfoigaaaGreat
