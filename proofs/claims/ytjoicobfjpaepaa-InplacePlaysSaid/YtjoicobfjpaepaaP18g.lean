/- Layer 18 (inplace): the chapter's example; any place and lengths. -/
import Derived.Test.YtjoicobfjpaepaaHxS
import Derived.Test.YtjoicobfjpaepaaL18b
namespace Go.Proofs.Ytjoicobfjpaepaa
open Go Go.HX
attribute [local irreducible] Ret XRun XOps XDr XOne Does Gives
set_option maxRecDepth 4000
set_option maxHeartbeats 1000000
theorem stC0_P18g {goal next : Prop} (k : next) (hs : Hid next → goal := by (intro k; (first | (refine gC F.ref09_Words ?_; refine p_call rfl rfl (ref09_Words_spec _ ?_ ?_ ?_ h) ?_; iterate 3 (first | assumption | omega | (simp only []; omega) | decide)) | (refine gC F.ref18_Fresh ?_; refine p_call rfl rfl (ref18_Fresh_spec _ ?_ h) ?_; iterate 1 (first | assumption | omega | (simp only []; omega) | decide)) | fail); exact k.out)) : goal := hs ⟨k⟩
theorem stC1_P18g {goal next : Prop} (k : next) (hs : Hid next → goal := by (intro k; (first | (refine gC F.pages_New ?_; refine p_call rfl rfl (pages_New_spec _ _ h) ?_) | fail); exact k.out)) : goal := hs ⟨k⟩
theorem stC2_P18g {goal next : Prop} (k : next) (hs : Hid next → goal := by (intro k; (first | (refine gC F.pages_Buffer_Open ?_; refine p_call rfl rfl (pages_Buffer_Open_spec _ ?_ ?_ (h.rf3)) ?_; iterate 2 (first | assumption | omega | (simp only []; omega) | decide)) | (refine gC F.ref09_Value ?_; refine p_call rfl rfl (ref09_Value_spec _ ?_ ?_ h) ?_; iterate 2 (first | assumption | omega | (simp only []; omega) | decide)) | (refine gC F.inplace_Writer_Move ?_; refine p_call rfl rfl (inplace_Writer_Move_nil h) ?_) | (refine gC F.pages_Buffer_Load ?_; refine p_call rfl rfl (pages_Buffer_Load_spec _ ?_ ?_ ?_ (h.rf3)) ?_; iterate 3 (first | assumption | omega | (simp only []; omega) | decide)) | fail); exact k.out)) : goal := hs ⟨k⟩
theorem stC3_P18g {goal next : Prop} (k : next) (hs : Hid next → goal := by (intro k; (first | (refine gC F.law18_begin ?_; refine p_call rfl rfl (law18_begin_spec _ ?_ h) ?_; iterate 1 (first | assumption | omega | (simp only []; omega) | decide)) | fail); exact k.out)) : goal := hs ⟨k⟩
theorem stC4_P18g {goal next : Prop} (k : next) (hs : Hid next → goal := by (intro k; (first | (refine gC F.inplace_NewAdder ?_; refine p_call rfl rfl (inplace_NewAdder_spec _ _ _ ?_ ?_ (h.rf1)) ?_; iterate 2 (first | assumption | omega | (simp only []; omega) | decide)) | fail); exact k.out)) : goal := hs ⟨k⟩
section
variable {S : SP} {w : World} {G : List HProp}

theorem ref18_Fresh_spec (s : ByteArray) (hs : s.size ≤ 1000) (h : Sat S w G) :
    Ret Try.prog F.ref18_Fresh #[.string ⟨#[107]⟩, .string s] w (fun v w' => Sat S w' (ownS T.uint64 1 v (ints .u64 (recW (recK s))) :: G)) := by
  refine ret_of is_ref18_Fresh rfl ?_
  repeat' (first | (refine gC F.ref09_Words ?_; refine p_call rfl rfl (ref09_Words_spec (recK s) (Int.le_refl 0) (show keyK.size ≤ 1000000 by decide) (show s.size ≤ 1000000 by omega) h) ?_; intro v w h; obtain ⟨va, vl, vc, rfl, _, _⟩ := ownS_slice h .here) | refine stP ?_ | (refine stC0_P18g ?_; rintro v w h) | fail)
  exact x_ret' is_ref18_Fresh rfl h

set_option maxHeartbeats 4000000 in
theorem law18_begin_spec (s : ByteArray) (hs : s.size ≤ 128) (h : Sat S w G) :
    Ret Try.prog F.law18_begin #[.string s] w (fun v w' => ∃ b c d x, v = .tuple #[.pointer (some ⟨b, 0, none⟩), .bool true] ∧ OnPage x ⟨false, 0, wordsZ s⟩ s.size ∧ x.bits = 6 ∧ Sat S w' (pt b (.cells (bufC (x) c d) T.pages_Buffer (0, 0)) :: isRow c (x).wr :: isRow d (x).hr :: G)) := by
  have hop := onpage_begin hs
  have hln := recK_len s
  have hbk := recK_bnd hs
  have hok0 : BufOk (bufP (List.replicate 128 0) 0 0 ⟨[1, 0], 1, 0⟩) := ⟨by decide, by decide, by show (List.length (List.replicate 128 (0 : Int)) : Int) = 2 * sizeZ 6; rw [six64]; rfl⟩
  have hin : BufM.isIn (bufP (List.replicate 128 0) 0 0 ⟨[1, 0], 1, 0⟩) 1 := ⟨by decide, by unfold BufM.has BufM.frame pageZ; rw [show (bufP (List.replicate 128 0) 0 0 ⟨[1, 0], 1, 0⟩).bits = 6 from rfl, six64]; decide⟩
  have hroom : roomZ (bufP (List.replicate 128 0) 0 0 ⟨[1, 0], 1, 0⟩).bits 1 = 63 := by unfold roomZ; rw [show (bufP (List.replicate 128 0) 0 0 ⟨[1, 0], 1, 0⟩).bits = 6 from rfl, six64]; decide
  have hcell : (BufM.cell (bufP (List.replicate 128 0) 0 0 ⟨[1, 0], 1, 0⟩) 1).toNat = 1 := by unfold BufM.cell BufM.frame pageZ offZ; rw [show (bufP (List.replicate 128 0) 0 0 ⟨[1, 0], 1, 0⟩).bits = 6 from rfl, six64]; decide
  refine ret_of is_law18_begin rfl ?_
  repeat' (first | (refine gC F.pages_New ?_; refine p_call rfl rfl (pages_New_spec 6 2 h) ?_; rintro _ w (⟨hno, rfl, h⟩ | ⟨hcc, b, c, d, rfl, h⟩); exact absurd (by decide) hno) | (refine gC F.pages_Buffer_Open ?_; refine p_call rfl rfl (pages_Buffer_Open_spec 0 (by decide) (buf0_ok (bits := 6) (n := 2) (by decide) (by decide)) (h.rf3)) ?_; rw [open_0]; rintro _ w ⟨rfl, h⟩) | (refine gC F.ref18_Fresh ?_; refine p_call rfl rfl (ref18_Fresh_spec s (by omega) h) ?_; intro v w h; obtain ⟨va, vl, vc, rfl, _, _⟩ := ownS_slice h .here) | (refine gC F.pages_Buffer_Fill ?_; refine p_call rfl rfl (pages_Buffer_Fill_spec 1 (recW (recK s)) (by decide) (by decide) hok0 hin (by omega) (by rw [hroom]; omega) hbk (fun w h => ownS_rd h .here) (h.rf3)) ?_; rintro _ w ⟨rfl, h⟩; rw [hcell] at h) | refine stP ?_ | (refine stC1_P18g ?_; rintro _ w (⟨hq1, rfl, h⟩ | ⟨⟨⟨hq2, hq3⟩, hq4, hq5⟩, ⟨b, c, d, rfl, h⟩⟩)) | (refine stC2_P18g ?_; rintro _ w ⟨rfl, h⟩) | (refine stC0_P18g ?_; rintro v w h) | (refine p_cmp rfl rfl rfl rfl (fun hc => ?_) (fun hc => ?_) <;> simp only [cmpProp] at hc) | fail)
  exact x_ret' is_law18_begin rfl ⟨b, c, d, _, rfl, hop, rfl, h.pm3⟩

set_option maxHeartbeats 4000000 in
theorem law18_awake_spec (h : Sat S w G) : Ret Try.prog F.law18_awake #[] w (fun v w' => v = .bool true ∧ Sat S w' G) := by
  have hv5 : wordsZ (valueV 5) = [5] := words_value (by decide) (by decide)
  have hs5 := valueV_size 5
  refine ret_of is_law18_awake rfl ?_
  repeat' (first | (refine gC F.law18_begin ?_; refine p_call rfl rfl (law18_begin_spec (valueV 5) (by omega) h) ?_; rw [hv5, hs5]; rintro _ w ⟨b, c, d, x, rfl, hp, hx6, h⟩) | (refine gC F.inplace_NewAdder ?_; refine p_call rfl rfl (inplace_NewAdder_spec 1 1 7 (by decide) (by decide) (h.rf1)) ?_; rw [hx6]; rintro _ w (⟨hno, _⟩ | ⟨_, r, u, rfl, h⟩); exact absurd (place_k (n := 8) (by decide)).1 hno) | refine stP ?_ | (refine stC2_P18g ?_; rintro _ w ⟨rfl, h⟩) | (refine stC3_P18g ?_; rintro _ w ⟨b, c, d, x, rfl, hq1, hq2, h⟩) | (refine stC4_P18g ?_; rintro _ w (⟨hq1, rfl, h⟩ | ⟨hq2, ⟨r, u, rfl, h⟩⟩)) | (refine p_cmp rfl rfl rfl rfl (fun hc => ?_) (fun hc => ?_) <;> simp only [cmpProp] at hc) | fail)
  have hw0 := isWr_add (m := 7) (c := ⟨false, 0, [5]⟩) (by decide) (by decide) rfl
  obtain ⟨ua, ul, uc, rfl, _, _⟩ := ownS_slice h (.there .here)
  refine x_keep [1, 3, 5] rfl ?_
  refine x_loop_inv (fun lm le w => ∃ (n : Nat), ∃ (x : BufM), ∃ (y : WrM), ∃ (l : List Int), lm = 4 - n ∧ n ≤ 3 ∧ IsWr y l (awkS n).1 (awkS n).2 8 ∧ OnPage x (awkS n).2 8 ∧ le = [(1, .pointer (some ⟨b, 0, none⟩)), (3, .pointer (some ⟨r, 0, none⟩)), (5, .int .i64 n)] ∧ Sat S w (pt r (.cells (wrC b y (.slice ua ul uc)).toArray T.inplace_Writer (0, 0)) :: ownS T.uint64 1 (.slice ua ul uc) (ints .u64 l) :: pt b (.cells (bufC (x) c d) T.pages_Buffer (0, 0)) :: isRow c (x).wr :: isRow d (x).hr :: G)) (4) ⟨0, x, _, _, rfl, by omega, hw0, hp, rfl, h.pm5⟩ ?_
  clear h
  rintro lm le w ⟨n, x, y, l, rfl, hi0, hi1, hi2, rfl, h⟩ ih
  by_cases hn : n < 3
  · have hmv := awkS_more hn
    repeat' (first | (refine gC F.inplace_Writer_Move ?_; refine p_call rfl rfl (inplace_Writer_Move_rel hi1 hi2 (h.rf5)) ?_; rw [hmv]; rintro _ w ⟨rfl, x', y', l', hr', hp', h⟩) | refine stP ?_ | (refine stC2_P18g ?_; rintro _ w ⟨rfl, h⟩) | (refine stC3_P18g ?_; rintro _ w ⟨b, c, d, x, rfl, hq1, hq2, h⟩) | (refine stC4_P18g ?_; rintro _ w (⟨hq1, rfl, h⟩ | ⟨hq2, ⟨r, u, rfl, h⟩⟩)) | (refine p_cmp rfl rfl rfl rfl (fun hc => ?_) (fun hc => ?_) <;> simp only [cmpProp] at hc) | fail)
    exact x_keep [1, 3, 5] rfl (ih _ _ _ (by omega) ⟨n + 1, x', y', l', rfl, by omega, hr', hp', rfl, h.pm5⟩)
  · obtain rfl : n = 3 := by omega
    have hmv := awkS_done
    repeat' (first | (refine gC F.inplace_Writer_Move ?_; refine p_call rfl rfl (inplace_Writer_Move_rel hi1 hi2 (h.rf5)) ?_; rw [hmv]; rintro _ w ⟨rfl, x', y', l', hr', hp', h⟩) | refine stP ?_ | (refine stC2_P18g ?_; rintro _ w ⟨rfl, h⟩) | (refine stC3_P18g ?_; rintro _ w ⟨b, c, d, x, rfl, hq1, hq2, h⟩) | (refine stC4_P18g ?_; rintro _ w (⟨hq1, rfl, h⟩ | ⟨hq2, ⟨r, u, rfl, h⟩⟩)) | (refine p_cmp rfl rfl rfl rfl (fun hc => ?_) (fun hc => ?_) <;> simp only [cmpProp] at hc) | fail)
    have hp4 : OnPage x' (awkS 4).2 8 := hp'
    have hsm := awkS_sum
    have hwd : x'.wd 5 = 12 := by
      have := hp4.word (i := 0) (by rw [hsm]; decide)
      rw [hsm] at this
      exact this
    have hi5 := hp4.isIn (a := 5) (by decide) (by decide)
    have hok4 := hp4.ok
    repeat' (first | (refine gC F.pages_Buffer_Load ?_; refine p_call rfl rfl (pages_Buffer_Load_spec 5 (by decide) (by decide) hok4 (h.rf3)) ?_; rw [if_pos hi5, if_pos hi5, buf_load hok4, hwd]; rintro _ w ⟨rfl, h⟩) | refine stP ?_ | (refine stC2_P18g ?_; rintro _ w ⟨rfl, h⟩) | (refine stC3_P18g ?_; rintro _ w ⟨b, c, d, x, rfl, hq1, hq2, h⟩) | (refine stC4_P18g ?_; rintro _ w (⟨hq1, rfl, h⟩ | ⟨hq2, ⟨r, u, rfl, h⟩⟩)) | (refine p_cmp rfl rfl rfl rfl (fun hc => ?_) (fun hc => ?_) <;> simp only [cmpProp] at hc) | fail)
    exact x_ret' is_law18_awake rfl ⟨rfl, h.drop.drop.drop.drop.drop⟩
end
end Go.Proofs.Ytjoicobfjpaepaa
