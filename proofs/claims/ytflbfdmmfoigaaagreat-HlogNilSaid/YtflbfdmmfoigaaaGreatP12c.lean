/- Layer 12 (pages): pages are closed; how many frames; a buffer that is not there. -/
import Derived.Test.YtflbfdmmfoigaaaGreatHxS
import Derived.Test.YtflbfdmmfoigaaaGreatP12b
namespace Go.Proofs.YtflbfdmmfoigaaaGreat
open Go Go.HX
attribute [local irreducible] Ret XRun XOps XDr XOne Does Gives
set_option maxRecDepth 4000
set_option maxHeartbeats 1000000
theorem stC0_P12c {goal next : Prop} (k : next) (hs : Hid next → goal := by (intro k; (first | (refine gC F.pages_Buffer_Has ?_; refine p_call rfl rfl (pages_Buffer_Has_spec _ ?_ ?_ (h.rf2)) ?_; iterate 2 (first | assumption | omega | (simp only []; omega) | decide)) | fail); exact k.out)) : goal := hs ⟨k⟩
theorem stC1_P12c {goal next : Prop} (k : next) (hs : Hid next → goal := by (intro k; (first | (refine gC F.pages_Buffer_Has ?_; refine p_call rfl rfl (pages_Buffer_Has_nil _ h) ?_) | (refine gC F.cell_Row_Len ?_; refine p_call rfl rfl (cell_Row_Len_spec (h.rf1)) ?_) | (refine gC F.cell_Row_Len ?_; refine p_call rfl rfl (cell_Row_Len_nil h) ?_) | (refine gC F.pages_Buffer_frame ?_; refine p_call rfl rfl (pages_Buffer_frame_spec _ ?_ ?_ (h.rf2)) ?_; iterate 2 (first | assumption | omega | (simp only []; omega) | decide)) | (refine gC F.place_Size ?_; refine p_call rfl rfl (place_Size_spec _ h) ?_) | fail); exact k.out)) : goal := hs ⟨k⟩
theorem stD2_P12c {goal next : Prop} (k : next) (hs : Hid next → goal := by (intro k; (first | (refine gCR F.pages_Buffer_frame ?_; refine r_call rfl rfl rfl (pages_Buffer_frame_spec _ ?_ ?_ (h.rf2)) ?_; iterate 2 (first | assumption | omega | (simp only []; omega) | decide)) | (refine gCR F.cell_Row_Store ?_; refine r_call rfl rfl rfl (cell_Row_Store_spec _ _ ?_ ?_ (h.rf1)) ?_; iterate 2 (first | assumption | omega | (simp only []; omega) | decide)) | (refine gCR F.cell_Row_Store ?_; refine r_call rfl rfl rfl (cell_Row_Store_nil _ _ h) ?_) | (refine gCR F.cell_Row_Load ?_; refine r_call rfl rfl rfl (cell_Row_Load_spec _ (h.rf1)) ?_) | (refine gCR F.cell_Row_Load ?_; refine r_call rfl rfl rfl (cell_Row_Load_nil _ h) ?_) | (refine gCR F.pages_mark ?_; refine r_call rfl rfl rfl (pages_mark_spec _ ?_ ?_ h) ?_; iterate 2 (first | assumption | omega | (simp only []; omega) | decide)) | (refine gCR F.cell_Row_CAS ?_; refine r_call rfl rfl rfl (cell_Row_CAS_spec _ _ _ ?_ ?_ (h.rf1)) ?_; iterate 2 (first | assumption | omega | (simp only []; omega) | decide)) | (refine gCR F.cell_Row_CAS ?_; refine r_call rfl rfl rfl (cell_Row_CAS_nil _ _ _ h) ?_) | (refine gCR F.cell_Row_Fill ?_; refine r_call rfl rfl rfl (cell_Row_Fill_nil _ _ _ _ h) ?_) | (refine gCR F.cell_Row_Words ?_; refine r_call rfl rfl rfl (cell_Row_Words_nil _ _ h) ?_) | fail); exact k.out)) : goal := hs ⟨k⟩
theorem stD3_P12c {goal next : Prop} (k : next) (hs : Hid next → goal := by (intro k; (first | (refine gCR F.cell_Row_Words ?_; refine r_call rfl rfl rfl (cell_Row_Words_spec _ _ (h.rf1)) ?_) | fail); exact k.out)) : goal := hs ⟨k⟩
def BufM.closeR (x : BufM) (p : Int) : Int × BufM := if x.has p then (0, { x with hr := x.hr.store (x.frame p) 0 }) else (7, x)
section
variable {S : SP} {w : World} {G : List HProp}

theorem pages_Buffer_Close_spec {b c d : Nat} {x : BufM} (p : Int) (p1 : p ≤ 9223372036854775807) (hok : BufOk x) (h : Sat S w (pt b (.cells (bufC (x) c d) T.pages_Buffer (0, 0)) :: isRow c (x).wr :: isRow d (x).hr :: G)) :
    Ret Tryz.prog F.pages_Buffer_Close #[.pointer (some ⟨b, 0, none⟩), .int .i64 p] w (fun v w' => v = .int .i64 (x.closeR p).1 ∧ Sat S w' (pt b (.cells (bufC ((x.closeR p).2) c d) T.pages_Buffer (0, 0)) :: isRow c ((x.closeR p).2).wr :: isRow d ((x.closeR p).2).hr :: G)) := by
  refine ret_of is_pages_Buffer_Close rfl ?_
  have hf := frame_bnd hok p
  by_cases hh : x.has p
  · have p0 : 0 ≤ p := hh.1
    have hm : x.hr.may (x.frame p) = 0 := by rw [RowM.may, if_pos (by omega)]
    rw [BufM.closeR, if_pos hh]
    repeat' (first | contradiction | (refine gCR F.cell_Row_Store ?_; refine r_call rfl rfl rfl (cell_Row_Store_spec (x.frame p) 0 (by decide) (by decide) (h.rf1)) ?_; rw [hm]; rintro _ w ⟨rfl, h⟩; refine nowa ?_) | (refine gC F.cell_Row_Store ?_; refine p_call rfl rfl (cell_Row_Store_spec (x.frame p) 0 (by decide) (by decide) (h.rf1)) ?_; rw [hm]; rintro _ w ⟨rfl, h⟩) | refine stP ?_ | (refine stC0_P12c ?_; rintro _ w ⟨(⟨rfl, hb⟩ | ⟨rfl, hb⟩), h⟩) | (refine stC1_P12c ?_; rintro _ w ⟨rfl, h⟩) | (refine stD2_P12c ?_; rintro _ w ⟨rfl, h⟩ <;> refine nowa ?_) | (refine x_drawn rfl ?_; have h := h.drew) | refine x_drawn rfl ?_ | fail)
    exact x_ret' is_pages_Buffer_Close rfl ⟨rfl, h.pm3⟩
  · rw [BufM.closeR, if_neg hh]
    repeat' (first | contradiction | refine stP ?_ | (refine stC0_P12c ?_; rintro _ w ⟨(⟨rfl, hb⟩ | ⟨rfl, hb⟩), h⟩) | (refine stC1_P12c ?_; rintro _ w ⟨rfl, h⟩) | (refine stD2_P12c ?_; rintro _ w ⟨rfl, h⟩ <;> refine nowa ?_) | (refine x_drawn rfl ?_; have h := h.drew) | refine x_drawn rfl ?_ | fail)
    exact x_ret' is_pages_Buffer_Close rfl ⟨rfl, h.pm3⟩

theorem pages_Buffer_Bits_nil (h : Sat S w G) : Ret Tryz.prog F.pages_Buffer_Bits #[.pointer none] w (fun v w' => v = .int .i64 0 ∧ Sat S w' G) := by
  refine ret_of is_pages_Buffer_Bits rfl ?_
  repeat' (first | refine stPs ?_ | fail)
  exact x_ret' is_pages_Buffer_Bits rfl ⟨rfl, h⟩
theorem pages_Buffer_Frames_nil (h : Sat S w G) : Ret Tryz.prog F.pages_Buffer_Frames #[.pointer none] w (fun v w' => v = .int .i64 0 ∧ Sat S w' G) := by
  refine ret_of is_pages_Buffer_Frames rfl ?_
  repeat' (first | refine stPs ?_ | (refine stC1_P12c ?_; rintro _ w ⟨rfl, h⟩) | fail)
  exact x_ret' is_pages_Buffer_Frames rfl ⟨rfl, h⟩
theorem pages_Buffer_Has_nil (p : Int) (h : Sat S w G) : Ret Tryz.prog F.pages_Buffer_Has #[.pointer none, .int .i64 p] w (fun v w' => v = .bool false ∧ Sat S w' G) := by
  refine ret_of is_pages_Buffer_Has rfl ?_
  repeat' (first | refine stPs ?_ | (refine stD2_P12c ?_; rintro _ w ⟨rfl, h⟩ <;> refine nowa ?_) | (refine p_cmp rfl rfl rfl rfl (fun hc => ?_) (fun hc => ?_) <;> simp only [cmpProp] at hc) | (refine r_cmp rfl rfl rfl rfl rfl (fun hc => ?_) (fun hc => ?_) <;> simp only [cmpProp] at hc) | (refine x_drawn rfl ?_; have h := h.drew) | refine x_drawn rfl ?_ | fail)
  exact x_ret' is_pages_Buffer_Has rfl ⟨rfl, h⟩
theorem pages_Buffer_Open_nil (p : Int) (h : Sat S w G) : Ret Tryz.prog F.pages_Buffer_Open #[.pointer none, .int .i64 p] w (fun v w' => v = .int .i64 2 ∧ Sat S w' G) := by
  refine ret_of is_pages_Buffer_Open rfl ?_
  repeat' (first | refine stPs ?_ | (refine stC0_P12c ?_; rintro _ w ⟨(⟨rfl, hb⟩ | ⟨rfl, hb⟩), h⟩) | (refine stC1_P12c ?_; rintro _ w ⟨rfl, h⟩) | (refine stD2_P12c ?_; rintro _ w ⟨rfl, h⟩ <;> refine nowa ?_) | (refine p_cmp rfl rfl rfl rfl (fun hc => ?_) (fun hc => ?_) <;> simp only [cmpProp] at hc) | (refine r_cmp rfl rfl rfl rfl rfl (fun hc => ?_) (fun hc => ?_) <;> simp only [cmpProp] at hc) | (refine x_drawn rfl ?_; have h := h.drew) | refine x_drawn rfl ?_ | fail)
  exact x_ret' is_pages_Buffer_Open rfl ⟨rfl, h⟩
theorem pages_Buffer_Close_nil (p : Int) (h : Sat S w G) : Ret Tryz.prog F.pages_Buffer_Close #[.pointer none, .int .i64 p] w (fun v w' => v = .int .i64 2 ∧ Sat S w' G) := by
  refine ret_of is_pages_Buffer_Close rfl ?_
  repeat' (first | refine stPs ?_ | (refine stC0_P12c ?_; rintro _ w ⟨(⟨rfl, hb⟩ | ⟨rfl, hb⟩), h⟩) | (refine stC1_P12c ?_; rintro _ w ⟨rfl, h⟩) | (refine stD2_P12c ?_; rintro _ w ⟨rfl, h⟩ <;> refine nowa ?_) | (refine x_drawn rfl ?_; have h := h.drew) | refine x_drawn rfl ?_ | fail)
  exact x_ret' is_pages_Buffer_Close rfl ⟨rfl, h⟩







theorem pages_Buffer_Page_nil (p : Int) (h : Sat S w G) : Ret Tryz.prog F.pages_Buffer_Page #[.pointer none, .int .i64 p] w (fun v w' => v = .tuple #[.slice none 0 0, .int .i64 2] ∧ Sat S w' G) := by
  refine ret_of is_pages_Buffer_Page rfl ?_
  repeat' (first | refine stPs ?_ | (refine stC0_P12c ?_; rintro _ w ⟨(⟨rfl, hb⟩ | ⟨rfl, hb⟩), h⟩) | (refine stC1_P12c ?_; rintro _ w ⟨rfl, h⟩) | (refine stD2_P12c ?_; rintro _ w ⟨rfl, h⟩ <;> refine nowa ?_) | (refine stD3_P12c ?_; rintro _ w (⟨hq1, rfl, h⟩ | ⟨hq2, ⟨u, rfl, h⟩⟩) <;> refine nowa ?_) | (refine x_drawn rfl ?_; have h := h.drew) | refine x_drawn rfl ?_ | fail)
  exact x_ret' is_pages_Buffer_Page rfl ⟨rfl, h⟩
end
end Go.Proofs.YtflbfdmmfoigaaaGreat
