/- Layer 12 (pages): what is told where words are not there; a page's words; the pages that are in. -/
import Derived.Test.YtfchenbihepjaaaHxS
import Derived.Test.YtfchenbihepjaaaP12c
import Derived.Test.YtfchenbihepjaaaP12s
namespace Go.Proofs.Ytfchenbihepjaaa
open Go Go.HX
attribute [local irreducible] Ret XRun XOps XDr XOne Does Gives
set_option maxRecDepth 4000
set_option maxHeartbeats 1000000
theorem stC0_P12p {goal next : Prop} (k : next) (hs : Hid next → goal := by (intro k; (first | (refine gC F.cell_Row_Len ?_; refine p_call rfl rfl (cell_Row_Len_spec (h.rf1)) ?_) | (refine gC F.cell_Row_Len ?_; refine p_call rfl rfl (cell_Row_Len_nil h) ?_) | (refine gC F.pages_Buffer_run ?_; refine p_call rfl rfl (pages_Buffer_run_spec _ _ ?_ ?_ ?_ (h.rf2)) ?_; iterate 3 (first | assumption | omega | (simp only []; omega) | decide)) | (refine gC F.pages_Buffer_run ?_; refine p_call rfl rfl (pages_Buffer_run_nil _ _ h) ?_) | (refine gC F.cell_Row_Words ?_; refine p_call rfl rfl (cell_Row_Words_nil _ _ h) ?_) | (refine gC F.cell_Row_Fill ?_; refine p_call rfl rfl (cell_Row_Fill_nil _ _ _ _ h) ?_) | (refine gC F.pages_Buffer_Has ?_; refine p_call rfl rfl (pages_Buffer_Has_nil _ h) ?_) | (refine gC F.place_Size ?_; refine p_call rfl rfl (place_Size_spec _ h) ?_) | (refine gC F.pages_Buffer_Frames ?_; refine p_call rfl rfl (pages_Buffer_Frames_nil h) ?_) | (refine gC F.pages_Buffer_Frames ?_; refine p_call rfl rfl (pages_Buffer_Frames_spec (h.rf3)) ?_) | (refine gC F.cell_Row_Load ?_; refine p_call rfl rfl (cell_Row_Load_spec _ (h.rf1)) ?_) | (refine gC F.cell_Row_Load ?_; refine p_call rfl rfl (cell_Row_Load_nil _ h) ?_) | fail); exact k.out)) : goal := hs ⟨k⟩
theorem stC1_P12p {goal next : Prop} (k : next) (hs : Hid next → goal := by (intro k; (first | (refine gC F.cell_Row_Words ?_; refine p_call rfl rfl (cell_Row_Words_spec _ _ (h.rf1)) ?_) | fail); exact k.out)) : goal := hs ⟨k⟩
theorem stC2_P12p {goal next : Prop} (k : next) (hs : Hid next → goal := by (intro k; (first | (refine gC F.pages_Buffer_Has ?_; refine p_call rfl rfl (pages_Buffer_Has_spec _ ?_ ?_ (h.rf2)) ?_; iterate 2 (first | assumption | omega | (simp only []; omega) | decide)) | fail); exact k.out)) : goal := hs ⟨k⟩
theorem stD3_P12p {goal next : Prop} (k : next) (hs : Hid next → goal := by (intro k; (first | (refine gCR F.pages_Buffer_frame ?_; refine r_call rfl rfl rfl (pages_Buffer_frame_spec _ ?_ ?_ (h.rf2)) ?_; iterate 2 (first | assumption | omega | (simp only []; omega) | decide)) | (refine gCR F.cell_Row_Words ?_; refine r_call rfl rfl rfl (cell_Row_Words_nil _ _ h) ?_) | fail); exact k.out)) : goal := hs ⟨k⟩
theorem stD4_P12p {goal next : Prop} (k : next) (hs : Hid next → goal := by (intro k; (first | (refine gCR F.cell_Row_Words ?_; refine r_call rfl rfl rfl (cell_Row_Words_spec _ _ (h.rf1)) ?_) | fail); exact k.out)) : goal := hs ⟨k⟩
theorem stC5_P12p {goal next : Prop} (k : next) (hs : Hid next → goal := by (intro k; (first | (refine gC F.slices_Sort_int_int ?_; refine p_call rfl rfl (slices_Sort_int_int_spec _ ?_ (h.rf1)) ?_; iterate 1 (first | assumption | omega | (simp only []; omega) | decide)) | fail); exact k.out)) : goal := hs ⟨k⟩
/-- The pages that are in, by their frames. -/
def pagesIn (ws : List Int) : List Int := (ws.filter (fun z => decide (0 < z))).map (fun z => z - 1)
theorem pagesIn_length (ws : List Int) : (pagesIn ws).length ≤ ws.length := by
  unfold pagesIn
  rw [List.length_map]
  exact List.length_filter_le _ _
theorem pagesIn_next {ws : List Int} {i : Nat} {z : Int} (h : ws[i]? = some z) : pagesIn (ws.take (i + 1)) = pagesIn (ws.take i) ++ (if 0 < z then [z - 1] else []) := by
  unfold pagesIn
  rw [take_next h, List.filter_append, List.map_append]
  congr 1
  by_cases hz : 0 < z
  · rw [if_pos hz, List.filter_cons_of_pos (by simpa using hz)]; rfl
  · rw [if_neg hz, List.filter_cons_of_neg (by simpa using hz)]; rfl
section
variable {S : SP} {w : World} {G : List HProp}

theorem pages_Buffer_Frames_spec {b c d : Nat} {x : BufM} (h : Sat S w (pt b (.cells (bufC (x) c d) T.pages_Buffer (0, 0)) :: isRow c (x).wr :: isRow d (x).hr :: G)) : Ret Try.prog F.pages_Buffer_Frames #[.pointer (some ⟨b, 0, none⟩)] w (fun v w' => v = .int .i64 x.hr.ws.length ∧ Sat S w' (pt b (.cells (bufC (x) c d) T.pages_Buffer (0, 0)) :: isRow c (x).wr :: isRow d (x).hr :: G)) := by
  refine ret_of is_pages_Buffer_Frames rfl ?_
  repeat' (first | refine stPs ?_ | (refine stC0_P12p ?_; rintro _ w ⟨rfl, h⟩) | fail)
  exact x_ret' is_pages_Buffer_Frames rfl ⟨rfl, h.pm3⟩

theorem pages_Buffer_Words_bad {b c d : Nat} {x : BufM} (a n : Int) (a0 : 0 ≤ a) (a1 : a ≤ 18446744073709551615) (hok : BufOk x) (hr : (x.runR a n).2 ≠ 0) (h : Sat S w (pt b (.cells (bufC (x) c d) T.pages_Buffer (0, 0)) :: isRow c (x).wr :: isRow d (x).hr :: G)) :
    Ret Try.prog F.pages_Buffer_Words #[.pointer (some ⟨b, 0, none⟩), .int .u64 a, .int .i64 n] w (fun v w' => v = .tuple #[.slice none 0 0, .int .i64 (x.runR a n).2] ∧ Sat S w' (pt b (.cells (bufC (x) c d) T.pages_Buffer (0, 0)) :: isRow c (x).wr :: isRow d (x).hr :: G)) := by
  refine ret_of is_pages_Buffer_Words rfl ?_
  repeat' (first | (refine gC F.pages_Buffer_run ?_; refine p_call rfl rfl (pages_Buffer_run_spec a n a0 a1 hok (h.rf2)) ?_; rintro _ w ⟨rfl, h⟩) | refine stP ?_ | (refine stC0_P12p ?_; rintro _ w ⟨rfl, h⟩) | (refine stC1_P12p ?_; rintro _ w (⟨hq1, rfl, h⟩ | ⟨hq2, ⟨u, rfl, h⟩⟩)) | (refine p_cmp rfl rfl rfl rfl (fun hc => ?_) (fun hc => ?_) <;> simp only [cmpProp] at hc) | fail)
  exact x_ret' is_pages_Buffer_Words rfl ⟨rfl, h.pm3⟩

theorem pages_Buffer_Fill_bad {b c d : Nat} {x : BufM} {va : Option Addr} {vl vc : Nat} (a : Int) (a0 : 0 ≤ a) (a1 : a ≤ 18446744073709551615) (hok : BufOk x) (hr : (x.runR a vl).2 ≠ 0) (h : Sat S w (pt b (.cells (bufC (x) c d) T.pages_Buffer (0, 0)) :: isRow c (x).wr :: isRow d (x).hr :: G)) :
    Ret Try.prog F.pages_Buffer_Fill #[.pointer (some ⟨b, 0, none⟩), .int .u64 a, .slice va vl vc] w (fun v w' => v = .int .i64 (x.runR a vl).2 ∧ Sat S w' (pt b (.cells (bufC (x) c d) T.pages_Buffer (0, 0)) :: isRow c (x).wr :: isRow d (x).hr :: G)) := by
  refine ret_of is_pages_Buffer_Fill rfl ?_
  repeat' (first | (refine gC F.pages_Buffer_run ?_; refine p_call rfl rfl (pages_Buffer_run_spec a vl a0 a1 hok (h.rf2)) ?_; rintro _ w ⟨rfl, h⟩) | refine stP ?_ | (refine stC0_P12p ?_; rintro _ w ⟨rfl, h⟩) | (refine p_cmp rfl rfl rfl rfl (fun hc => ?_) (fun hc => ?_) <;> simp only [cmpProp] at hc) | fail)
  exact x_ret' is_pages_Buffer_Fill rfl ⟨rfl, h.pm3⟩

theorem pages_Buffer_Page_out {b c d : Nat} {x : BufM} (p : Int) (p1 : p ≤ 9223372036854775807) (hok : BufOk x) (hh : ¬ x.has p) (h : Sat S w (pt b (.cells (bufC (x) c d) T.pages_Buffer (0, 0)) :: isRow c (x).wr :: isRow d (x).hr :: G)) :
    Ret Try.prog F.pages_Buffer_Page #[.pointer (some ⟨b, 0, none⟩), .int .i64 p] w (fun v w' => v = .tuple #[.slice none 0 0, .int .i64 7] ∧ Sat S w' (pt b (.cells (bufC (x) c d) T.pages_Buffer (0, 0)) :: isRow c (x).wr :: isRow d (x).hr :: G)) := by
  refine ret_of is_pages_Buffer_Page rfl ?_
  repeat' (first | contradiction | refine stP ?_ | (refine stC2_P12p ?_; rintro _ w ⟨(⟨rfl, hb⟩ | ⟨rfl, hb⟩), h⟩) | (refine stC0_P12p ?_; rintro _ w ⟨rfl, h⟩) | (refine stD3_P12p ?_; rintro _ w ⟨rfl, h⟩ <;> refine nowa ?_) | (refine stD4_P12p ?_; rintro _ w (⟨hq1, rfl, h⟩ | ⟨hq2, ⟨u, rfl, h⟩⟩) <;> refine nowa ?_) | (refine x_drawn rfl ?_; have h := h.drew) | refine x_drawn rfl ?_ | fail)
  exact x_ret' is_pages_Buffer_Page rfl ⟨rfl, h.pm3⟩

set_option maxHeartbeats 4000000 in
theorem pages_Buffer_Page_spec {b c d : Nat} {x : BufM} (p : Int) (p1 : p ≤ 9223372036854775807) (hok : BufOk x) (hh : x.has p) (h : Sat S w (pt b (.cells (bufC (x) c d) T.pages_Buffer (0, 0)) :: isRow c (x).wr :: isRow d (x).hr :: G)) :
    Ret Try.prog F.pages_Buffer_Page #[.pointer (some ⟨b, 0, none⟩), .int .i64 p] w (fun v w' => ∃ u, v = .tuple #[u, .int .i64 0] ∧ Sat S w' (ownS T.uint64 1 u (ints .u64 ((x.wr.ws.drop (x.frame p * sizeZ x.bits).toNat).take (sizeZ x.bits).toNat)) :: pt b (.cells (bufC (x) c d) T.pages_Buffer (0, 0)) :: isRow c (x).wr :: isRow d (x).hr :: G)) := by
  refine ret_of is_pages_Buffer_Page rfl ?_
  have p0 := hh.1
  have hf := frame_bnd hok p
  have hw := hok.few
  have hl := hok.len
  have hs2 : 32 ≤ sizeZ x.bits ∧ sizeZ x.bits ≤ 512 := by
    have := size_cases x.bits
    have := hok.bits
    omega
  have hmul : 0 ≤ x.frame p * sizeZ x.bits ∧ x.frame p * sizeZ x.bits ≤ 4096 ∧ x.frame p * sizeZ x.bits + sizeZ x.bits ≤ x.wr.ws.length := by
    generalize x.frame p = f at *
    rcases size_cases x.bits with ⟨_, h⟩ | ⟨_, h⟩ | ⟨_, h⟩ | ⟨_, h⟩ | ⟨_, h⟩ | ⟨_, h⟩ <;> rw [h] at hl ⊢ <;> omega
  have hri : x.wr.inR (x.frame p * sizeZ x.bits) (sizeZ x.bits) := ⟨by omega, by omega, by omega, by omega⟩
  repeat' (first | contradiction | (refine gCR F.cell_Row_Words ?_; refine r_call rfl rfl rfl (cell_Row_Words_spec (x.frame p * sizeZ x.bits) (sizeZ x.bits) (h.rf1)) ?_; rintro _ w (⟨hx, _⟩ | ⟨_, u, rfl, h⟩); exact absurd hri hx; refine nowa ?_) | (refine gC F.cell_Row_Words ?_; refine p_call rfl rfl (cell_Row_Words_spec (x.frame p * sizeZ x.bits) (sizeZ x.bits) (h.rf1)) ?_; rintro _ w (⟨hx, _⟩ | ⟨_, u, rfl, h⟩); exact absurd hri hx) | refine stP ?_ | (refine stC2_P12p ?_; rintro _ w ⟨(⟨rfl, hb⟩ | ⟨rfl, hb⟩), h⟩) | (refine stC0_P12p ?_; rintro _ w ⟨rfl, h⟩) | (refine stD3_P12p ?_; rintro _ w ⟨rfl, h⟩ <;> refine nowa ?_) | (refine stD4_P12p ?_; rintro _ w (⟨hq1, rfl, h⟩ | ⟨hq2, ⟨u, rfl, h⟩⟩) <;> refine nowa ?_) | (refine x_drawn rfl ?_; have h := h.drew) | refine x_drawn rfl ?_ | fail)
  exact x_ret' is_pages_Buffer_Page rfl ⟨u, rfl, h.pm4⟩

set_option maxHeartbeats 4000000 in
theorem pages_Buffer_In_spec {b c d : Nat} {x : BufM} (hok : BufOk x) (hz : ∀ z ∈ x.hr.ws, z ≤ 9223372036854775808) (h : Sat S w (pt b (.cells (bufC (x) c d) T.pages_Buffer (0, 0)) :: isRow c (x).wr :: isRow d (x).hr :: G)) :
    Ret Try.prog F.pages_Buffer_In #[.pointer (some ⟨b, 0, none⟩)] w (fun v w' => ∃ m, m.Perm (pagesIn x.hr.ws) ∧ Rise m m.length ∧ Sat S w' (ownS T.int 1 v (ints .i64 m) :: pt b (.cells (bufC (x) c d) T.pages_Buffer (0, 0)) :: isRow c (x).wr :: isRow d (x).hr :: G)) := by
  have hw := hok.few
  refine ret_of is_pages_Buffer_In rfl ?_
  repeat' (first | refine stPs ?_ | (refine stC0_P12p ?_; rintro _ w ⟨rfl, h⟩) | (refine stC5_P12p ?_; rintro _ w ⟨rfl, ⟨m, hq1, hq2, h⟩⟩) | (refine p_cmp rfl rfl rfl rfl (fun hc => ?_) (fun hc => ?_) <;> simp only [cmpProp] at hc) | fail)
  have h := ownS_none (E := T.int) (n := 1) h
  refine x_keep [0, 3, 7, 8] rfl ?_
  refine x_loop_inv (fun lm le w => ∃ (i : Nat), ∃ (v : Value), lm = x.hr.ws.length - i ∧ i ≤ x.hr.ws.length ∧ le = [(0, .pointer (some ⟨b, 0, none⟩)), (3, v), (7, .int .i64 x.hr.ws.length), (8, .int .i64 i)] ∧ Sat S w (ownS T.int 1 v (ints .i64 (pagesIn (x.hr.ws.take i))) :: pt b (.cells (bufC (x) c d) T.pages_Buffer (0, 0)) :: isRow c (x).wr :: isRow d (x).hr :: G)) (x.hr.ws.length) ⟨0, _, rfl, by omega, rfl, h.pm4⟩ ?_
  clear h
  rintro lm le w ⟨i, v, rfl, hi0, rfl, h⟩ ih
  obtain ⟨va, vl, vc, rfl, hvl, _⟩ := ownS_slice h .here
  have hpl : (pagesIn (x.hr.ws.take i)).length ≤ 8 := by
    have := pagesIn_length (x.hr.ws.take i)
    rw [List.length_take] at this
    omega
  by_cases hi : i < x.hr.ws.length
  · obtain ⟨z, hzi⟩ := has_elem hi
    have hn := pagesIn_next hzi
    have hb := hz z (List.mem_of_getElem? hzi)
    have hrow := isRow_ok h (.there (.there (.there .here)))
    have hb0 := hrow.1.2.2 z (List.mem_of_getElem? hzi)
    have hld : x.hr.load i = z := by
      rw [RowM.load, if_pos (by omega), Int.toNat_natCast, List.getD_eq_getElem?_getD, hzi]
      rfl
    by_cases hp : 0 < z
    · rw [if_pos hp] at hn
      repeat' (first | (refine gC F.cell_Row_Load ?_; refine p_call rfl rfl (cell_Row_Load_spec (r := x.hr) i (h.rf1)) ?_; rw [hld]; rintro _ w ⟨rfl, h⟩) | (refine p_do rfl (d_lit [.int .i64 (z - 1)] rfl rfl rfl rfl rfl h) ?_; intro v2 w h) | (refine p_do rfl (d_appR rfl rfl rfl (by decide) (h.pick (by repeat first | exact .here | apply Has.there)) (ownS_rd h .here) (by simp [Value.oneCell']) (by rw [ints_length]; simp; omega) (by rw [ints_length]; simp; omega)) ?_; intro v3 w h; obtain ⟨_, _, _, rfl, _, _⟩ := ownS_slice h .here) | refine stP ?_ | (refine stC0_P12p ?_; rintro _ w ⟨rfl, h⟩) | (refine stC5_P12p ?_; rintro _ w ⟨rfl, ⟨m, hq1, hq2, h⟩⟩) | (refine p_cmp rfl rfl rfl rfl (fun hc => ?_) (fun hc => ?_) <;> simp only [cmpProp] at hc) | fail)
      rw [show ints .i64 (pagesIn (x.hr.ws.take i)) ++ [.int .i64 (z - 1)] = ints .i64 (pagesIn (x.hr.ws.take (i + 1))) by rw [hn]; simp [ints]] at h
      exact x_keep [0, 3, 7, 8] rfl (ih _ _ _ (by omega) ⟨i + 1, _, rfl, by omega, rfl, h.pm4⟩)
    · rw [if_neg hp, List.append_nil] at hn
      rw [← hn] at h
      repeat' (first | (refine gC F.cell_Row_Load ?_; refine p_call rfl rfl (cell_Row_Load_spec (r := x.hr) i (h.rf1)) ?_; rw [hld]; rintro _ w ⟨rfl, h⟩) | refine stP ?_ | (refine stC0_P12p ?_; rintro _ w ⟨rfl, h⟩) | (refine stC5_P12p ?_; rintro _ w ⟨rfl, ⟨m, hq1, hq2, h⟩⟩) | (refine p_cmp rfl rfl rfl rfl (fun hc => ?_) (fun hc => ?_) <;> simp only [cmpProp] at hc) | fail)
      exact x_keep [0, 3, 7, 8] rfl (ih _ _ _ (by omega) ⟨i + 1, _, rfl, by omega, rfl, h.pm4⟩)
  · obtain rfl : i = x.hr.ws.length := by omega
    rw [List.take_of_length_le (Nat.le_refl _)] at h hpl
    repeat' (first | (refine gC F.slices_Sort_int_int ?_; refine p_call rfl rfl (slices_Sort_int_int_spec (pagesIn x.hr.ws) (by omega) (h.rf1)) ?_; rintro _ w ⟨rfl, m, hm, hs, h⟩) | refine stP ?_ | (refine stC0_P12p ?_; rintro _ w ⟨rfl, h⟩) | (refine stC5_P12p ?_; rintro _ w ⟨rfl, ⟨m, hq1, hq2, h⟩⟩) | (refine p_cmp rfl rfl rfl rfl (fun hc => ?_) (fun hc => ?_) <;> simp only [cmpProp] at hc) | fail)
    exact x_ret' is_pages_Buffer_In rfl ⟨m, hm, hs, h.pm4⟩
end
end Go.Proofs.Ytfchenbihepjaaa
