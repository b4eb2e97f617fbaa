/- Layer 12 (pages): runs of words, pages that are opened. -/
import Derived.Test.YtflbfdmmfoigaaaGreatHxS
import Derived.Test.YtflbfdmmfoigaaaGreatP12
namespace Go.Proofs.YtflbfdmmfoigaaaGreat
open Go Go.HX
attribute [local irreducible] Ret XRun XOps XDr XOne Does Gives
set_option maxRecDepth 4000
set_option maxHeartbeats 1000000
theorem stC0_P12b {goal next : Prop} (k : next) (hs : Hid next → goal := by (intro k; (first | (refine gC F.pages_Buffer_Has ?_; refine p_call rfl rfl (pages_Buffer_Has_spec _ ?_ ?_ (h.rf2)) ?_; iterate 2 (first | assumption | omega | (simp only []; omega) | decide)) | fail); exact k.out)) : goal := hs ⟨k⟩
theorem stC1_P12b {goal next : Prop} (k : next) (hs : Hid next → goal := by (intro k; (first | (refine gC F.pages_Buffer_Has ?_; refine p_call rfl rfl (pages_Buffer_Has_nil _ h) ?_) | (refine gC F.pages_Buffer_frame ?_; refine p_call rfl rfl (pages_Buffer_frame_spec _ ?_ ?_ (h.rf2)) ?_; iterate 2 (first | assumption | omega | (simp only []; omega) | decide)) | (refine gC F.place_Size ?_; refine p_call rfl rfl (place_Size_spec _ h) ?_) | fail); exact k.out)) : goal := hs ⟨k⟩
theorem stD2_P12b {goal next : Prop} (k : next) (hs : Hid next → goal := by (intro k; (first | (refine gCR F.pages_mark ?_; refine r_call rfl rfl rfl (pages_mark_spec _ ?_ ?_ h) ?_; iterate 2 (first | assumption | omega | (simp only []; omega) | decide)) | (refine gCR F.cell_Row_CAS ?_; refine r_call rfl rfl rfl (cell_Row_CAS_spec _ _ _ ?_ ?_ (h.rf1)) ?_; iterate 2 (first | assumption | omega | (simp only []; omega) | decide)) | (refine gCR F.cell_Row_CAS ?_; refine r_call rfl rfl rfl (cell_Row_CAS_nil _ _ _ h) ?_) | (refine gCR F.cell_Row_Fill ?_; refine r_call rfl rfl rfl (cell_Row_Fill_nil _ _ _ _ h) ?_) | fail); exact k.out)) : goal := hs ⟨k⟩
/-- The first cell of some words of one page, and the error. -/
def BufM.runR (x : BufM) (a n : Int) : Int × Int := if x.isIn a then (if 1 ≤ n ∧ n ≤ roomZ x.bits a then (x.cell a, 0) else (0, 1)) else (0, 7)
theorem run_in {x : BufM} (hok : BufOk x) {a n : Int} (a1 : a ≤ 281474976710655) (h1 : 1 ≤ n) (h2 : n ≤ roomZ x.bits a) : x.wr.inR (x.cell a) n := by
  have hcb := cell_bnd hok a
  have hf := frame_bnd hok (pageZ x.bits a)
  have hl := hok.len
  have hw := hok.few
  have hb := hok.bits
  refine ⟨by omega, hcb.1, ?_⟩
  unfold BufM.cell
  unfold offZ
  unfold roomZ at h2
  generalize x.frame (pageZ x.bits a) = f at *
  rcases size_cases x.bits with ⟨_, h⟩ | ⟨_, h⟩ | ⟨_, h⟩ | ⟨_, h⟩ | ⟨_, h⟩ | ⟨_, h⟩ <;> rw [h] at hl h2 ⊢
  · omega
  all_goals
    rw [if_pos ⟨by omega, a1⟩] at h2 ⊢
    omega
/-- A page that is opened: the error, and the buffer behind it. -/
def BufM.openR (x : BufM) (p : Int) : Int × BufM :=
  if p < 0 then (1, x) else if x.has p then (8, x) else if x.hr.ws.getD (x.frame p).toNat 0 = 0 then
    (0, { x with hr := x.hr.cas (x.frame p) 0 (p + 1), wr := { x.wr with ws := fillRow x.wr.ws (x.frame p * sizeZ x.bits).toNat (List.replicate (sizeZ x.bits).toNat 0) } })
  else (10, { x with hr := x.hr.cas (x.frame p) 0 (p + 1) })
section
variable {S : SP} {w : World} {G : List HProp}




set_option maxHeartbeats 4000000 in
theorem pages_Buffer_Open_spec {b c d : Nat} {x : BufM} (p : Int) (p1 : p ≤ 9223372036854775807) (hok : BufOk x) (h : Sat S w (pt b (.cells (bufC (x) c d) T.pages_Buffer (0, 0)) :: isRow c (x).wr :: isRow d (x).hr :: G)) :
    Ret Tryz.prog F.pages_Buffer_Open #[.pointer (some ⟨b, 0, none⟩), .int .i64 p] w (fun v w' => v = .int .i64 (x.openR p).1 ∧ Sat S w' (pt b (.cells (bufC ((x.openR p).2) c d) T.pages_Buffer (0, 0)) :: isRow c ((x.openR p).2).wr :: isRow d ((x.openR p).2).hr :: G)) := by
  refine ret_of is_pages_Buffer_Open rfl ?_
  have hf := frame_bnd hok p
  have hw := hok.few
  by_cases p0 : p < 0
  · rw [BufM.openR, if_pos p0]
    repeat' (first | refine stPs ?_ | (refine stC0_P12b ?_; rintro _ w ⟨(⟨rfl, hb⟩ | ⟨rfl, hb⟩), h⟩) | (refine stC1_P12b ?_; rintro _ w ⟨rfl, h⟩) | (refine stD2_P12b ?_; rintro _ w ⟨rfl, h⟩ <;> refine nowa ?_) | (refine p_cmp rfl rfl rfl rfl (fun hc => ?_) (fun hc => ?_) <;> simp only [cmpProp] at hc) | (refine r_cmp rfl rfl rfl rfl rfl (fun hc => ?_) (fun hc => ?_) <;> simp only [cmpProp] at hc) | (refine x_drawn rfl ?_; have h := h.drew) | refine x_drawn rfl ?_ | fail)
    exact x_ret' is_pages_Buffer_Open rfl ⟨rfl, h⟩
  · by_cases hh : x.has p
    · rw [BufM.openR, if_neg p0, if_pos hh]
      repeat' (first | contradiction | refine stP ?_ | (refine stC0_P12b ?_; rintro _ w ⟨(⟨rfl, hb⟩ | ⟨rfl, hb⟩), h⟩) | (refine stC1_P12b ?_; rintro _ w ⟨rfl, h⟩) | (refine stD2_P12b ?_; rintro _ w ⟨rfl, h⟩ <;> refine nowa ?_) | (refine p_cmp rfl rfl rfl rfl (fun hc => ?_) (fun hc => ?_) <;> simp only [cmpProp] at hc) | (refine r_cmp rfl rfl rfl rfl rfl (fun hc => ?_) (fun hc => ?_) <;> simp only [cmpProp] at hc) | (refine x_drawn rfl ?_; have h := h.drew) | refine x_drawn rfl ?_ | fail)
      exact x_ret' is_pages_Buffer_Open rfl ⟨rfl, h.pm3⟩
    · have ht : x.hr.there (x.frame p) := ⟨by omega, by omega⟩
      by_cases hz : x.hr.ws.getD (x.frame p).toNat 0 = 0
      · rw [BufM.openR, if_neg p0, if_neg hh, if_pos hz]
        have hd : decide (x.hr.there (x.frame p) ∧ x.hr.ws.getD (x.frame p).toNat 0 = 0) = true := decide_eq_true ⟨ht, hz⟩
        have hs2 : 32 ≤ sizeZ x.bits ∧ sizeZ x.bits ≤ 512 := by
          have := size_cases x.bits
          have := hok.bits
          omega
        have hl := hok.len
        have hmul : 0 ≤ x.frame p * sizeZ x.bits ∧ x.frame p * sizeZ x.bits ≤ 4096 ∧ x.frame p * sizeZ x.bits + sizeZ x.bits ≤ x.wr.ws.length ∧ (x.wr.ws.length : Int) ≤ 4096 := by
          generalize x.frame p = f at *
          rcases size_cases x.bits with ⟨_, h⟩ | ⟨_, h⟩ | ⟨_, h⟩ | ⟨_, h⟩ | ⟨_, h⟩ | ⟨_, h⟩ <;> rw [h] at hl ⊢ <;> omega
        obtain ⟨sz, hsz⟩ := Int.eq_ofNat_of_zero_le (show 0 ≤ sizeZ x.bits by omega)
        have hin : x.wr.inR (x.frame p * sizeZ x.bits) (List.replicate sz (0 : Int)).length := ⟨by omega, by omega, by rw [List.length_replicate]; omega, by rw [List.length_replicate]; omega⟩
        rw [hsz] at hmul hin hs2 ⊢
        rw [Int.toNat_natCast]
        have hz0 : ∀ z ∈ List.replicate sz (0 : Int), 0 ≤ z ∧ z ≤ 18446744073709551615 := fun z hz => by rw [(List.mem_replicate.1 hz).2]; omega
        repeat' (first | contradiction | (refine gCR F.cell_Row_CAS ?_; refine r_call rfl rfl rfl (cell_Row_CAS_spec (x.frame p) 0 (p + 1) (by omega) (by omega) (h.rf1)) ?_; rw [hd]; rintro _ w ⟨rfl, h⟩; refine nowa ?_) | (refine gC F.place_Size ?_; refine p_call rfl rfl (place_Size_spec _ h) ?_; rintro _ w ⟨rfl, h⟩; rw [hsz]) | refine stP ?_ | (refine stC0_P12b ?_; rintro _ w ⟨(⟨rfl, hb⟩ | ⟨rfl, hb⟩), h⟩) | (refine stC1_P12b ?_; rintro _ w ⟨rfl, h⟩) | (refine stD2_P12b ?_; rintro _ w ⟨rfl, h⟩ <;> refine nowa ?_) | (refine p_cmp rfl rfl rfl rfl (fun hc => ?_) (fun hc => ?_) <;> simp only [cmpProp] at hc) | (refine r_cmp rfl rfl rfl rfl rfl (fun hc => ?_) (fun hc => ?_) <;> simp only [cmpProp] at hc) | (refine x_drawn rfl ?_; have h := h.drew) | refine x_drawn rfl ?_ | fail)
        refine r_do rfl rfl (d_mkN (kd := .u64) (sz := 1) (n := sz) rfl rfl (by decide) (by omega) (by omega) h) ?_
        intro v w h
        refine nowa ?_
        rw [Nat.mul_one] at h
        repeat' (first | (refine gCR F.cell_Row_Fill ?_; refine r_call rfl rfl rfl (cell_Row_Fill_spec (G := ownS T.uint64 1 v (ints .u64 (List.replicate sz 0)) :: _) (x.frame p * sz) (List.replicate sz 0) (by rw [List.length_replicate]; omega) (by omega) hz0 (fun w h => ownS_rd h .here) (h.sub (.cons (by repeat first | exact .here | apply Has.there) (.cons (by repeat first | exact .here | apply Has.there) (.refl _))))) ?_; rw [if_pos hin, if_pos hin]; rintro _ w ⟨rfl, h⟩; refine nowa ?_) | refine stP ?_ | (refine stC0_P12b ?_; rintro _ w ⟨(⟨rfl, hb⟩ | ⟨rfl, hb⟩), h⟩) | (refine stC1_P12b ?_; rintro _ w ⟨rfl, h⟩) | (refine stD2_P12b ?_; rintro _ w ⟨rfl, h⟩ <;> refine nowa ?_) | (refine p_cmp rfl rfl rfl rfl (fun hc => ?_) (fun hc => ?_) <;> simp only [cmpProp] at hc) | (refine r_cmp rfl rfl rfl rfl rfl (fun hc => ?_) (fun hc => ?_) <;> simp only [cmpProp] at hc) | (refine x_drawn rfl ?_; have h := h.drew) | refine x_drawn rfl ?_ | fail)
        exact x_ret' is_pages_Buffer_Open rfl ⟨rfl, h.pm3⟩
      · rw [BufM.openR, if_neg p0, if_neg hh, if_neg hz]
        have hd : decide (x.hr.there (x.frame p) ∧ x.hr.ws.getD (x.frame p).toNat 0 = 0) = false := decide_eq_false (fun hx => hz hx.2)
        repeat' (first | contradiction | (refine gCR F.cell_Row_CAS ?_; refine r_call rfl rfl rfl (cell_Row_CAS_spec (x.frame p) 0 (p + 1) (by omega) (by omega) (h.rf1)) ?_; rw [hd]; rintro _ w ⟨rfl, h⟩; refine nowa ?_) | refine stP ?_ | (refine stC0_P12b ?_; rintro _ w ⟨(⟨rfl, hb⟩ | ⟨rfl, hb⟩), h⟩) | (refine stC1_P12b ?_; rintro _ w ⟨rfl, h⟩) | (refine stD2_P12b ?_; rintro _ w ⟨rfl, h⟩ <;> refine nowa ?_) | (refine p_cmp rfl rfl rfl rfl (fun hc => ?_) (fun hc => ?_) <;> simp only [cmpProp] at hc) | (refine r_cmp rfl rfl rfl rfl rfl (fun hc => ?_) (fun hc => ?_) <;> simp only [cmpProp] at hc) | (refine x_drawn rfl ?_; have h := h.drew) | refine x_drawn rfl ?_ | fail)
        exact x_ret' is_pages_Buffer_Open rfl ⟨rfl, h.pm3⟩
end
end Go.Proofs.YtflbfdmmfoigaaaGreat
