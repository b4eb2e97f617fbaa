/- Layer 12 (pages): the chapter's example; a buffer that is not there. -/
import Derived.Test.YtfchenbihepjaaaHxS
import Derived.Test.YtfchenbihepjaaaP12c
import Derived.Test.YtfchenbihepjaaaP12s
namespace Go.Proofs.Ytfchenbihepjaaa
open Go Go.HX
attribute [local irreducible] Ret XRun XOps XDr XOne Does Gives
set_option maxRecDepth 4000
set_option maxHeartbeats 1000000
theorem stC0_W12 {goal next : Prop} (k : next) (hs : Hid next → goal := by (intro k; (first | (refine gC F.pages_New ?_; refine p_call rfl rfl (pages_New_spec _ _ h) ?_) | fail); exact k.out)) : goal := hs ⟨k⟩
theorem stC1_W12 {goal next : Prop} (k : next) (hs : Hid next → goal := by (intro k; (first | (refine gC F.pages_Buffer_Open ?_; refine p_call rfl rfl (pages_Buffer_Open_spec _ ?_ ?_ (h.rf3)) ?_; iterate 2 (first | assumption | omega | (simp only []; omega) | decide)) | (refine gC F.pages_Buffer_Open ?_; refine p_call rfl rfl (pages_Buffer_Open_nil _ h) ?_) | (refine gC F.pages_Buffer_Close ?_; refine p_call rfl rfl (pages_Buffer_Close_spec _ ?_ ?_ (h.rf3)) ?_; iterate 2 (first | assumption | omega | (simp only []; omega) | decide)) | (refine gC F.pages_Buffer_Close ?_; refine p_call rfl rfl (pages_Buffer_Close_nil _ h) ?_) | (refine gC F.pages_Buffer_Frames ?_; refine p_call rfl rfl (pages_Buffer_Frames_nil h) ?_) | (refine gC F.pages_Buffer_Frames ?_; refine p_call rfl rfl (pages_Buffer_Frames_spec (h.rf3)) ?_) | (refine gC F.cell_Row_Load ?_; refine p_call rfl rfl (cell_Row_Load_spec _ (h.rf1)) ?_) | (refine gC F.cell_Row_Load ?_; refine p_call rfl rfl (cell_Row_Load_nil _ h) ?_) | (refine gC F.law12_awake ?_; refine p_call rfl rfl (law12_awake_spec h) ?_) | (refine gC F.pages_Buffer_Load ?_; refine p_call rfl rfl (pages_Buffer_Load_spec _ ?_ ?_ ?_ (h.rf3)) ?_; iterate 3 (first | assumption | omega | (simp only []; omega) | decide)) | (refine gC F.pages_Buffer_Load ?_; refine p_call rfl rfl (pages_Buffer_Load_nil _ h) ?_) | (refine gC F.pages_Buffer_CAS ?_; refine p_call rfl rfl (pages_Buffer_CAS_spec _ _ _ ?_ ?_ ?_ ?_ ?_ (h.rf3)) ?_; iterate 5 (first | assumption | omega | (simp only []; omega) | decide)) | (refine gC F.pages_Buffer_CAS ?_; refine p_call rfl rfl (pages_Buffer_CAS_nil _ _ _ h) ?_) | (refine gC F.pages_Buffer_Words ?_; refine p_call rfl rfl (pages_Buffer_Words_nil _ _ h) ?_) | (refine gC F.pages_Buffer_Page ?_; refine p_call rfl rfl (pages_Buffer_Page_nil _ h) ?_) | (refine gC F.pages_Buffer_Bits ?_; refine p_call rfl rfl (pages_Buffer_Bits_spec (h.rf1)) ?_) | (refine gC F.pages_Buffer_Bits ?_; refine p_call rfl rfl (pages_Buffer_Bits_nil h) ?_) | (refine gC F.pages_Buffer_Has ?_; refine p_call rfl rfl (pages_Buffer_Has_nil _ h) ?_) | (refine gC F.pages_Buffer_In ?_; refine p_call rfl rfl (pages_Buffer_In_nil h) ?_) | (refine gC F.pages_Buffer_Store ?_; refine p_call rfl rfl (pages_Buffer_Store_spec _ _ ?_ ?_ ?_ ?_ ?_ (h.rf3)) ?_; iterate 5 (first | assumption | omega | (simp only []; omega) | decide)) | (refine gC F.pages_Buffer_Store ?_; refine p_call rfl rfl (pages_Buffer_Store_nil _ _ h) ?_) | (refine gC F.pages_Buffer_Fill ?_; refine p_call rfl rfl (pages_Buffer_Fill_nil _ h) ?_) | fail); exact k.out)) : goal := hs ⟨k⟩
theorem stC2_W12 {goal next : Prop} (k : next) (hs : Hid next → goal := by (intro k; (first | (refine gC F.slices_Sort_int_int ?_; refine p_call rfl rfl (slices_Sort_int_int_spec _ ?_ (h.rf1)) ?_; iterate 1 (first | assumption | omega | (simp only []; omega) | decide)) | fail); exact k.out)) : goal := hs ⟨k⟩
theorem stC3_W12 {goal next : Prop} (k : next) (hs : Hid next → goal := by (intro k; (first | (refine gC F.pages_Buffer_Words ?_; refine p_call rfl rfl (pages_Buffer_Words_spec _ _ ?_ ?_ ?_ _ ?_ ?_ (h.rf3)) ?_; iterate 5 (first | assumption | omega | (simp only []; omega) | decide)) | (refine gC F.pages_Buffer_Page ?_; refine p_call rfl rfl (pages_Buffer_Page_spec _ ?_ ?_ _ (h.rf3)) ?_; iterate 2 (first | assumption | omega | (simp only []; omega) | decide)) | fail); exact k.out)) : goal := hs ⟨k⟩
theorem stC4_W12 {goal next : Prop} (k : next) (hs : Hid next → goal := by (intro k; (first | (refine gC F.pages_Buffer_Has ?_; refine p_call rfl rfl (pages_Buffer_Has_spec _ ?_ ?_ (h.rf2)) ?_; iterate 2 (first | assumption | omega | (simp only []; omega) | decide)) | fail); exact k.out)) : goal := hs ⟨k⟩
theorem stC5_W12 {goal next : Prop} (k : next) (hs : Hid next → goal := by (intro k; (first | (refine gBx ?_; refine p_do rfl (d_boxL rfl h (by first | (dsimp only [Value.cells]; done) | exact rfl)) ?_) | fail); exact k.out)) : goal := hs ⟨k⟩
theorem five32 : sizeZ 5 = 32 := by unfold sizeZ; decide
/-- A buffer of two frames, of noughts. -/
def bufQ (h : List Int) (a b : Int) : BufM := ⟨5, ⟨List.replicate 64 0, 0, 0⟩, ⟨h, a, b⟩⟩
theorem bufQ_ok (x y a b : Int) : BufOk (bufQ [x, y] a b) := ⟨by show 5 ≤ (5 : Int) ∧ (5 : Int) ≤ 9; decide, by show 2 ≤ 2 ∧ 2 ≤ 8; decide, by show (List.length (List.replicate 64 (0 : Int)) : Int) = 2 * sizeZ 5; rw [five32]; rfl⟩
theorem bufQ_0 : buf0 5 2 = bufQ [0, 0] 0 0 := by
  unfold buf0
  rw [five32]
  rfl
theorem open_a : (bufQ [0, 0] 0 0).openR 0 = (0, bufQ [1, 0] 1 0) := by
  unfold BufM.openR BufM.has BufM.frame bufQ
  rw [five32]
  rfl
theorem open_b : (bufQ [1, 0] 1 0).openR 1 = (0, bufQ [1, 2] 2 0) := by
  unfold BufM.openR BufM.has BufM.frame bufQ
  rw [five32]
  rfl
theorem open_c : (bufQ [1, 2] 2 0).openR 2 = (10, bufQ [1, 2] 2 1) := by
  unfold BufM.openR BufM.has BufM.frame bufQ
  rfl
theorem close_d : (bufQ [1, 2] 2 1).closeR 0 = (0, bufQ [0, 2] 2 1) := by
  unfold BufM.closeR BufM.has BufM.frame bufQ
  rfl
theorem open_e : ((bufQ [0, 2] 2 1).openR 2).1 = 0 := by
  unfold BufM.openR BufM.has BufM.frame bufQ
  rfl
section
variable {S : SP} {w : World} {G : List HProp}

set_option maxHeartbeats 4000000 in
theorem law12_awake_spec (h : Sat S w G) : Ret Try.prog F.law12_awake #[] w (fun v w' => v = .bool true ∧ Sat S w' G) := by
  refine ret_of is_law12_awake rfl ?_
  repeat' (first | (refine gC F.pages_New ?_; refine p_call rfl rfl (pages_New_spec 5 2 h) ?_; rw [bufQ_0]; rintro _ w (⟨hno, rfl, h⟩ | ⟨hcc, b, c, d, rfl, h⟩); exact absurd (by decide) hno) | (refine gC F.pages_Buffer_Open ?_; first | (refine p_call rfl rfl (pages_Buffer_Open_spec (b := b) (c := c) (d := d) (G := G) (x := bufQ [0, 0] 0 0) 0 (by decide) (bufQ_ok _ _ _ _) h) ?_; rw [open_a]; rintro _ w ⟨rfl, h⟩) | (refine p_call rfl rfl (pages_Buffer_Open_spec (b := b) (c := c) (d := d) (G := G) (x := bufQ [1, 0] 1 0) 1 (by decide) (bufQ_ok _ _ _ _) h) ?_; rw [open_b]; rintro _ w ⟨rfl, h⟩) | (refine p_call rfl rfl (pages_Buffer_Open_spec (b := b) (c := c) (d := d) (G := G) (x := bufQ [1, 2] 2 0) 2 (by decide) (bufQ_ok _ _ _ _) h) ?_; rw [open_c]; rintro _ w ⟨rfl, h⟩) | (refine p_call rfl rfl (pages_Buffer_Open_spec (b := b) (c := c) (d := d) (G := G) (x := bufQ [0, 2] 2 1) 2 (by decide) (bufQ_ok _ _ _ _) h) ?_; rw [open_e]; rintro _ w ⟨rfl, h⟩)) | (refine gC F.pages_Buffer_Close ?_; refine p_call rfl rfl (pages_Buffer_Close_spec (b := b) (c := c) (d := d) (G := G) (x := bufQ [1, 2] 2 1) 0 (by decide) (bufQ_ok _ _ _ _) h) ?_; rw [close_d]; rintro _ w ⟨rfl, h⟩) | refine stP ?_ | (refine stC0_W12 ?_; rintro _ w (⟨hq1, rfl, h⟩ | ⟨⟨⟨hq2, hq3⟩, hq4, hq5⟩, ⟨b, c, d, rfl, h⟩⟩)) | (refine stC1_W12 ?_; rintro _ w ⟨rfl, h⟩) | (refine p_cmp rfl rfl rfl rfl (fun hc => ?_) (fun hc => ?_) <;> simp only [cmpProp] at hc) | fail)
  exact x_ret' is_law12_awake rfl ⟨rfl, h.drop.drop.drop⟩

theorem pages_Buffer_In_nil (h : Sat S w G) : Ret Try.prog F.pages_Buffer_In #[.pointer none] w (fun v w' => v = .slice none 0 0 ∧ Sat S w' G) := by
  refine ret_of is_pages_Buffer_In rfl ?_
  repeat' (first | refine stPs ?_ | (refine stC1_W12 ?_; rintro _ w ⟨rfl, h⟩) | (refine stC2_W12 ?_; rintro _ w ⟨rfl, ⟨m, hq1, hq2, h⟩⟩) | (refine p_cmp rfl rfl rfl rfl (fun hc => ?_) (fun hc => ?_) <;> simp only [cmpProp] at hc) | fail)
  refine x_keep [0, 3, 7, 8] rfl ?_
  refine x_loop_inv (fun lm le w => ∃ (k : Nat), lm = 1 + k ∧ k ≤ 1 ∧ le = [(0, .pointer none), (3, .slice none 0 0), (7, .int .i64 0), (8, .int .i64 0)] ∧ Sat S w (G)) (2) ⟨1, rfl, by omega, rfl, h⟩ ?_
  clear h
  rintro lm le w ⟨k, rfl, hi0, rfl, h⟩ ih
  have h := ownS_none (E := T.int) (n := 1) h
  repeat' (first | (refine gC F.slices_Sort_int_int ?_; refine p_call rfl rfl (slices_Sort_int_int_spec (v := .slice none 0 0) [] (by decide) (h.rf1)) ?_; rintro _ w ⟨rfl, m, hm, hs, h⟩) | refine stP ?_ | (refine stC1_W12 ?_; rintro _ w ⟨rfl, h⟩) | (refine stC2_W12 ?_; rintro _ w ⟨rfl, ⟨m, hq1, hq2, h⟩⟩) | (refine p_cmp rfl rfl rfl rfl (fun hc => ?_) (fun hc => ?_) <;> simp only [cmpProp] at hc) | fail)
  exact x_ret' is_pages_Buffer_In rfl ⟨rfl, h.drop⟩
end
/-- A call that is played. -/
structure Act12 where
  kind : Int
  page : Int
  a : Int
  n : Int
  old : Int
  w : Int
  va : Option Addr
  vl : Nat
  vc : Nat
  l : List Int
def act12C (a : Act12) : List Value := [.int .i64 a.kind, .int .i64 a.page, .int .u64 a.a, .int .i64 a.n, .int .u64 a.old, .int .u64 a.w, .slice a.va a.vl a.vc]
section
variable {S : SP} {w : World} {G : List HProp}

set_option maxHeartbeats 8000000 in
theorem law12_PagesNil_spec (a : Act12) (h : Sat S w G) : Ret Try.prog F.law12_PagesNil #[.agg (act12C a).toArray] w (fun v w' => v = .bool true ∧ Sat S w' []) := by
  refine ret_of is_law12_PagesNil rfl ?_
  repeat' (first | refine stPs ?_ | (refine stC1_W12 ?_; rintro _ w ⟨rfl, h⟩) | (refine stC3_W12 ?_; rintro _ w ⟨u, rfl, h⟩) | (refine stC4_W12 ?_; rintro _ w ⟨(⟨rfl, hb⟩ | ⟨rfl, hb⟩), h⟩) | (refine stC5_W12 ?_; rintro _ w ⟨bx, rfl, h⟩) | (refine p_cmp rfl rfl rfl rfl (fun hc => ?_) (fun hc => ?_) <;> simp only [cmpProp] at hc) | fail)
  exact x_ret' is_law12_PagesNil rfl ⟨rfl, h.nil⟩
end
abbrev act12Ty : Ty := .st (.pair (.int .i64) (.pair (.int .i64) (.pair (.int .u64) (.pair (.int .i64) (.pair (.int .u64) (.pair (.int .u64) (.pair (.sl (.int .u64)) .unit)))))))
theorem PagesNil_law (cs0 : Array Value) (W : World) (w0 : Arg W act12Ty cs0.toList) : Ret Try.prog F.law12_PagesNil #[.agg cs0] W (fun v w' => v = .bool true ∧ Sat ⟨W.heap.size, W⟩ w' []) := by
  obtain ⟨_, _, e, ⟨k, rfl, _⟩, _, _, rfl, ⟨p, rfl, _⟩, _, _, rfl, ⟨a, rfl, _⟩, _, _, rfl, ⟨n, rfl, _⟩, _, _, rfl, ⟨o, rfl, _⟩, _, _, rfl, ⟨u, rfl, _⟩, _, _, rfl, ⟨va, vl, vc, els, rfl, _⟩, h⟩ := w0
  obtain rfl : _ = [] := h
  have hc : cs0 = (act12C ⟨k, p, a, n, o, u, va, vl, vc, []⟩).toArray := by
    apply Array.toList_inj.1
    rw [e]
    rfl
  rw [hc]
  exact law12_PagesNil_spec _ (Sat.begin W)
end Go.Proofs.Ytfchenbihepjaaa
