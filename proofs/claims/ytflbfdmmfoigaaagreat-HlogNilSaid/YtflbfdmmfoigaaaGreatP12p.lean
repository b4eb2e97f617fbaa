/- Layer 12 (pages): what is told where words are not there; a page's words; the pages that are in. -/
import Derived.Test.YtflbfdmmfoigaaaGreatHxS
import Derived.Test.YtflbfdmmfoigaaaGreatP12c
import Derived.Test.YtflbfdmmfoigaaaGreatP12s
namespace Go.Proofs.YtflbfdmmfoigaaaGreat
open Go Go.HX
attribute [local irreducible] Ret XRun XOps XDr XOne Does Gives
set_option maxRecDepth 4000
set_option maxHeartbeats 1000000
theorem stC0_P12p {goal next : Prop} (k : next) (hs : Hid next → goal := by (intro k; (first | (refine gC F.cell_Row_Len ?_; refine p_call rfl rfl (cell_Row_Len_spec (h.rf1)) ?_) | (refine gC F.cell_Row_Len ?_; refine p_call rfl rfl (cell_Row_Len_nil h) ?_) | (refine gC F.pages_Buffer_Has ?_; refine p_call rfl rfl (pages_Buffer_Has_nil _ h) ?_) | (refine gC F.place_Size ?_; refine p_call rfl rfl (place_Size_spec _ h) ?_) | fail); exact k.out)) : goal := hs ⟨k⟩
theorem stC1_P12p {goal next : Prop} (k : next) (hs : Hid next → goal := by (intro k; (first | (refine gC F.pages_Buffer_Has ?_; refine p_call rfl rfl (pages_Buffer_Has_spec _ ?_ ?_ (h.rf2)) ?_; iterate 2 (first | assumption | omega | (simp only []; omega) | decide)) | fail); exact k.out)) : goal := hs ⟨k⟩
theorem stD2_P12p {goal next : Prop} (k : next) (hs : Hid next → goal := by (intro k; (first | (refine gCR F.pages_Buffer_frame ?_; refine r_call rfl rfl rfl (pages_Buffer_frame_spec _ ?_ ?_ (h.rf2)) ?_; iterate 2 (first | assumption | omega | (simp only []; omega) | decide)) | (refine gCR F.cell_Row_Words ?_; refine r_call rfl rfl rfl (cell_Row_Words_nil _ _ h) ?_) | fail); exact k.out)) : goal := hs ⟨k⟩
theorem stD3_P12p {goal next : Prop} (k : next) (hs : Hid next → goal := by (intro k; (first | (refine gCR F.cell_Row_Words ?_; refine r_call rfl rfl rfl (cell_Row_Words_spec _ _ (h.rf1)) ?_) | fail); exact k.out)) : goal := hs ⟨k⟩
/-- The pages that are in, by their frames. -/
def pagesIn (ws : List Int) : List Int := (ws.filter (fun z => decide (0 < z))).map (fun z => z - 1)
theorem pagesIn_length (ws : List Int) : (pagesIn ws).length ≤ ws.length := by
  unfold pagesIn
  rw [List.length_map]
  exact List.length_filter_le _ _
theorem pagesIn_next {ws : List Int} {i : Nat} {z : Int} (h : ws[i]? = some z) : pagesIn (ws.take (i + 1)) = pagesIn (ws.take i) ++ (if 0 < z then [z - 1] else []) := by
  unfold pagesIn
  rw [take_next h, List.filter_append, List.map_append]
  congr 1
  by_cases hz : 0 < z
  · rw [if_pos hz, List.filter_cons_of_pos (by simpa using hz)]; rfl
  · rw [if_neg hz, List.filter_cons_of_neg (by simpa using hz)]; rfl
section
variable {S : SP} {w : World} {G : List HProp}

theorem pages_Buffer_Frames_spec {b c d : Nat} {x : BufM} (h : Sat S w (pt b (.cells (bufC (x) c d) T.pages_Buffer (0, 0)) :: isRow c (x).wr :: isRow d (x).hr :: G)) : Ret Tryz.prog F.pages_Buffer_Frames #[.pointer (some ⟨b, 0, none⟩)] w (fun v w' => v = .int .i64 x.hr.ws.length ∧ Sat S w' (pt b (.cells (bufC (x) c d) T.pages_Buffer (0, 0)) :: isRow c (x).wr :: isRow d (x).hr :: G)) := by
  refine ret_of is_pages_Buffer_Frames rfl ?_
  repeat' (first | refine stPs ?_ | (refine stC0_P12p ?_; rintro _ w ⟨rfl, h⟩) | fail)
  exact x_ret' is_pages_Buffer_Frames rfl ⟨rfl, h.pm3⟩



theorem pages_Buffer_Page_out {b c d : Nat} {x : BufM} (p : Int) (p1 : p ≤ 9223372036854775807) (hok : BufOk x) (hh : ¬ x.has p) (h : Sat S w (pt b (.cells (bufC (x) c d) T.pages_Buffer (0, 0)) :: isRow c (x).wr :: isRow d (x).hr :: G)) :
    Ret Tryz.prog F.pages_Buffer_Page #[.pointer (some ⟨b, 0, none⟩), .int .i64 p] w (fun v w' => v = .tuple #[.slice none 0 0, .int .i64 7] ∧ Sat S w' (pt b (.cells (bufC (x) c d) T.pages_Buffer (0, 0)) :: isRow c (x).wr :: isRow d (x).hr :: G)) := by
  refine ret_of is_pages_Buffer_Page rfl ?_
  repeat' (first | contradiction | refine stP ?_ | (refine stC1_P12p ?_; rintro _ w ⟨(⟨rfl, hb⟩ | ⟨rfl, hb⟩), h⟩) | (refine stC0_P12p ?_; rintro _ w ⟨rfl, h⟩) | (refine stD2_P12p ?_; rintro _ w ⟨rfl, h⟩ <;> refine nowa ?_) | (refine stD3_P12p ?_; rintro _ w (⟨hq1, rfl, h⟩ | ⟨hq2, ⟨u, rfl, h⟩⟩) <;> refine nowa ?_) | (refine x_drawn rfl ?_; have h := h.drew) | refine x_drawn rfl ?_ | fail)
  exact x_ret' is_pages_Buffer_Page rfl ⟨rfl, h.pm3⟩

set_option maxHeartbeats 4000000 in
theorem pages_Buffer_Page_spec {b c d : Nat} {x : BufM} (p : Int) (p1 : p ≤ 9223372036854775807) (hok : BufOk x) (hh : x.has p) (h : Sat S w (pt b (.cells (bufC (x) c d) T.pages_Buffer (0, 0)) :: isRow c (x).wr :: isRow d (x).hr :: G)) :
    Ret Tryz.prog F.pages_Buffer_Page #[.pointer (some ⟨b, 0, none⟩), .int .i64 p] w (fun v w' => ∃ u, v = .tuple #[u, .int .i64 0] ∧ Sat S w' (ownS T.uint64 1 u (ints .u64 ((x.wr.ws.drop (x.frame p * sizeZ x.bits).toNat).take (sizeZ x.bits).toNat)) :: pt b (.cells (bufC (x) c d) T.pages_Buffer (0, 0)) :: isRow c (x).wr :: isRow d (x).hr :: G)) := by
  refine ret_of is_pages_Buffer_Page rfl ?_
  have p0 := hh.1
  have hf := frame_bnd hok p
  have hw := hok.few
  have hl := hok.len
  have hs2 : 32 ≤ sizeZ x.bits ∧ sizeZ x.bits ≤ 512 := by
    have := size_cases x.bits
    have := hok.bits
    omega
  have hmul : 0 ≤ x.frame p * sizeZ x.bits ∧ x.frame p * sizeZ x.bits ≤ 4096 ∧ x.frame p * sizeZ x.bits + sizeZ x.bits ≤ x.wr.ws.length := by
    generalize x.frame p = f at *
    rcases size_cases x.bits with ⟨_, h⟩ | ⟨_, h⟩ | ⟨_, h⟩ | ⟨_, h⟩ | ⟨_, h⟩ | ⟨_, h⟩ <;> rw [h] at hl ⊢ <;> omega
  have hri : x.wr.inR (x.frame p * sizeZ x.bits) (sizeZ x.bits) := ⟨by omega, by omega, by omega, by omega⟩
  repeat' (first | contradiction | (refine gCR F.cell_Row_Words ?_; refine r_call rfl rfl rfl (cell_Row_Words_spec (x.frame p * sizeZ x.bits) (sizeZ x.bits) (h.rf1)) ?_; rintro _ w (⟨hx, _⟩ | ⟨_, u, rfl, h⟩); exact absurd hri hx; refine nowa ?_) | (refine gC F.cell_Row_Words ?_; refine p_call rfl rfl (cell_Row_Words_spec (x.frame p * sizeZ x.bits) (sizeZ x.bits) (h.rf1)) ?_; rintro _ w (⟨hx, _⟩ | ⟨_, u, rfl, h⟩); exact absurd hri hx) | refine stP ?_ | (refine stC1_P12p ?_; rintro _ w ⟨(⟨rfl, hb⟩ | ⟨rfl, hb⟩), h⟩) | (refine stC0_P12p ?_; rintro _ w ⟨rfl, h⟩) | (refine stD2_P12p ?_; rintro _ w ⟨rfl, h⟩ <;> refine nowa ?_) | (refine stD3_P12p ?_; rintro _ w (⟨hq1, rfl, h⟩ | ⟨hq2, ⟨u, rfl, h⟩⟩) <;> refine nowa ?_) | (refine x_drawn rfl ?_; have h := h.drew) | refine x_drawn rfl ?_ | fail)
  exact x_ret' is_pages_Buffer_Page rfl ⟨u, rfl, h.pm4⟩

set_option maxHeartbeats 4000000 in
end
end Go.Proofs.YtflbfdmmfoigaaaGreat
