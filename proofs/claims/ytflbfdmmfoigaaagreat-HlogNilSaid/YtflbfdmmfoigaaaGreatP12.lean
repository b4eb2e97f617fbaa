/- Layer 12 (pages): what the functions of a buffer compute. -/
import Derived.Test.YtflbfdmmfoigaaaGreatHxS
import Derived.Test.YtflbfdmmfoigaaaGreatP02
import Derived.Test.YtflbfdmmfoigaaaGreatP05f
namespace Go.Proofs.YtflbfdmmfoigaaaGreat
open Go Go.HX
attribute [local irreducible] Ret XRun XOps XDr XOne Does Gives
set_option maxRecDepth 4000
set_option maxHeartbeats 1000000
theorem stC0_P12 {goal next : Prop} (k : next) (hs : Hid next → goal := by (intro k; (first | (refine gC F.place_May ?_; refine p_call rfl rfl (place_May_spec _ h) ?_) | fail); exact k.out)) : goal := hs ⟨k⟩
theorem stC1_P12 {goal next : Prop} (k : next) (hs : Hid next → goal := by (intro k; (first | (refine gC F.place_Size ?_; refine p_call rfl rfl (place_Size_spec _ h) ?_) | (refine gC F.cell_Row_Len ?_; refine p_call rfl rfl (cell_Row_Len_spec (h.rf1)) ?_) | (refine gC F.cell_Row_Len ?_; refine p_call rfl rfl (cell_Row_Len_nil h) ?_) | fail); exact k.out)) : goal := hs ⟨k⟩
theorem stC2_P12 {goal next : Prop} (k : next) (hs : Hid next → goal := by (intro k; (first | (refine gC F.cell_New ?_; refine p_call rfl rfl (cell_New_spec _ h) ?_) | fail); exact k.out)) : goal := hs ⟨k⟩
theorem stC3_P12 {goal next : Prop} (k : next) (hs : Hid next → goal := by (intro k; (first | (refine gBx ?_; refine p_do rfl (d_boxL rfl h (by first | (dsimp only [Value.cells]; done) | exact rfl)) ?_) | fail); exact k.out)) : goal := hs ⟨k⟩
theorem stD4_P12 {goal next : Prop} (k : next) (hs : Hid next → goal := by (intro k; (first | (refine gCR F.pages_Buffer_frame ?_; refine r_call rfl rfl rfl (pages_Buffer_frame_spec _ ?_ ?_ (h.rf2)) ?_; iterate 2 (first | assumption | omega | (simp only []; omega) | decide)) | (refine gCR F.cell_Row_Load ?_; refine r_call rfl rfl rfl (cell_Row_Load_spec _ (h.rf1)) ?_) | (refine gCR F.cell_Row_Load ?_; refine r_call rfl rfl rfl (cell_Row_Load_nil _ h) ?_) | (refine gCR F.pages_mark ?_; refine r_call rfl rfl rfl (pages_mark_spec _ ?_ ?_ h) ?_; iterate 2 (first | assumption | omega | (simp only []; omega) | decide)) | fail); exact k.out)) : goal := hs ⟨k⟩
/-- A buffer: bits of a page, the words of all frames, the holders. -/
structure BufM where
  bits : Int
  wr : RowM
  hr : RowM
structure BufOk (x : BufM) : Prop where
  bits : 5 ≤ x.bits ∧ x.bits ≤ 9
  few : 2 ≤ x.hr.ws.length ∧ x.hr.ws.length ≤ 8
  len : (x.wr.ws.length : Int) = x.hr.ws.length * sizeZ x.bits
def bufC (x : BufM) (c d : Nat) : Array Value := #[.int .i64 x.bits, .pointer (some ⟨c, 0, none⟩), .pointer (some ⟨d, 0, none⟩)]
-- MACRO BUF(x) = pt b (.cells (bufC (x) c d) T.pages_Buffer (0, 0)) :: isRow c (x).wr :: isRow d (x).hr
def BufM.frame (x : BufM) (p : Int) : Int := p % x.hr.ws.length
def BufM.has (x : BufM) (p : Int) : Prop := 0 ≤ p ∧ x.hr.load (x.frame p) = p + 1
instance (x : BufM) (p : Int) : Decidable (x.has p) := inferInstanceAs (Decidable (_ ∧ _))
def BufM.cell (x : BufM) (a : Int) : Int := x.frame (pageZ x.bits a) * sizeZ x.bits + offZ x.bits a
/-- Is an address' page in? -/
def BufM.isIn (x : BufM) (a : Int) : Prop := a ≤ 281474976710655 ∧ x.has (pageZ x.bits a)
instance (x : BufM) (a : Int) : Decidable (x.isIn a) := inferInstanceAs (Decidable (_ ∧ _))
def buf0 (bits n : Int) : BufM := ⟨bits, ⟨List.replicate (n * sizeZ bits).toNat 0, 0, 0⟩, ⟨List.replicate n.toNat 0, 0, 0⟩⟩
theorem page_bnd {bits a : Int} (a0 : 0 ≤ a) : 0 ≤ pageZ bits a ∧ pageZ bits a ≤ 281474976710655 ∧ 0 ≤ offZ bits a ∧ offZ bits a ≤ 511 := by
  unfold pageZ offZ
  rcases size_cases bits with ⟨_, h⟩ | ⟨_, h⟩ | ⟨_, h⟩ | ⟨_, h⟩ | ⟨_, h⟩ | ⟨_, h⟩ <;> rw [h] <;> (repeat' split) <;> omega
theorem frame_bnd {x : BufM} (hok : BufOk x) (p : Int) : 0 ≤ x.frame p ∧ x.frame p < x.hr.ws.length := by
  have := hok.few
  unfold BufM.frame
  exact ⟨Int.emod_nonneg _ (by omega), Int.emod_lt_of_pos _ (by omega)⟩
section
variable {S : SP} {w : World} {G : List HProp}

theorem pages_New_spec (bits n : Int) (h : Sat S w G) :
    Ret Tryz.prog F.pages_New #[.int .i64 bits, .int .i64 n] w (fun v w' => (¬ ((5 ≤ bits ∧ bits ≤ 9) ∧ 2 ≤ n ∧ n ≤ 8) ∧ v = .tuple #[.pointer none, .int .i64 1] ∧ Sat S w' G) ∨ (((5 ≤ bits ∧ bits ≤ 9) ∧ 2 ≤ n ∧ n ≤ 8) ∧ ∃ b c d, v = .tuple #[.pointer (some ⟨b, 0, none⟩), .int .i64 0] ∧ Sat S w' (pt b (.cells (bufC (buf0 bits n) c d) T.pages_Buffer (0, 0)) :: isRow c (buf0 bits n).wr :: isRow d (buf0 bits n).hr :: G))) := by
  refine ret_of is_pages_New rfl ?_
  by_cases hcc : (5 ≤ bits ∧ bits ≤ 9) ∧ 2 ≤ n ∧ n ≤ 8
  · have hs := size_cases bits
    have hsn : 0 ≤ n * sizeZ bits ∧ 32 ≤ n * sizeZ bits ∧ n * sizeZ bits ≤ 4096 := by
      rcases hs with ⟨_, h⟩ | ⟨_, h⟩ | ⟨_, h⟩ | ⟨_, h⟩ | ⟨_, h⟩ | ⟨_, h⟩ <;> rw [h] <;> omega
    have hs2 : 0 ≤ sizeZ bits ∧ sizeZ bits ≤ 512 := by omega
    have hc1 := hcc.1
    repeat' (first | (refine gC F.place_May ?_; refine p_call rfl rfl (place_May_spec bits h) ?_; rintro _ w ⟨(⟨rfl, hb⟩ | ⟨rfl, hb⟩), h⟩) | contradiction | (refine gC F.place_Size ?_; refine p_call rfl rfl (place_Size_spec bits h) ?_; rintro _ w ⟨rfl, h⟩) | refine stP ?_ | (refine p_cmp rfl rfl rfl rfl (fun hc => ?_) (fun hc => ?_) <;> simp only [cmpProp] at hc) | fail)
    refine p_call rfl rfl (cell_New_spec _ h) ?_
    rintro _ w (⟨hx, _⟩ | ⟨_, _, c, rfl, h⟩)
    · exact absurd ⟨by omega, by omega⟩ hx
    repeat' (first | refine stPs ?_ | (refine p_cmp rfl rfl rfl rfl (fun hc => ?_) (fun hc => ?_) <;> simp only [cmpProp] at hc) | fail)
    refine p_call rfl rfl (cell_New_spec _ h) ?_
    rintro _ w (⟨hx, _⟩ | ⟨_, _, d, rfl, h⟩)
    · exact absurd ⟨by omega, by omega⟩ hx
    repeat' (first | refine stPs ?_ | (refine stC0_P12 ?_; rintro _ w ⟨(⟨rfl, hb⟩ | ⟨rfl, hb⟩), h⟩) | (refine stC1_P12 ?_; rintro _ w ⟨rfl, h⟩) | (refine stC2_P12 ?_; rintro _ w (⟨hq1, rfl, h⟩ | ⟨hq2, hq3, ⟨b, rfl, h⟩⟩)) | (refine stC3_P12 ?_; rintro _ w ⟨bx, rfl, h⟩) | (refine p_cmp rfl rfl rfl rfl (fun hc => ?_) (fun hc => ?_) <;> simp only [cmpProp] at hc) | fail)
    exact x_ret' is_pages_New rfl (.inr ⟨hcc, bx, c, d, rfl, h.pm3⟩)
  · repeat' (first | (refine gC F.place_May ?_; refine p_call rfl rfl (place_May_spec bits h) ?_; rintro _ w ⟨(⟨rfl, hb⟩ | ⟨rfl, hb⟩), h⟩) | refine stP ?_ | (refine p_cmp rfl rfl rfl rfl (fun hc => ?_) (fun hc => ?_) <;> simp only [cmpProp] at hc) | fail)
    all_goals exact x_ret' is_pages_New rfl (.inl ⟨hcc, rfl, h⟩)

theorem buf0_ok {bits n : Int} (hb : 5 ≤ bits ∧ bits ≤ 9) (hn : 2 ≤ n ∧ n ≤ 8) : BufOk (buf0 bits n) := by
  have hs := size_cases bits
  refine ⟨hb, by unfold buf0; simp only [List.length_replicate]; omega, ?_⟩
  unfold buf0
  simp only [List.length_replicate]
  have : 0 ≤ n * sizeZ bits := by
    rcases hs with ⟨_, h⟩ | ⟨_, h⟩ | ⟨_, h⟩ | ⟨_, h⟩ | ⟨_, h⟩ | ⟨_, h⟩ <;> rw [h] <;> omega
  have e : ((n.toNat : Nat) : Int) = n := by omega
  rw [e]
  omega

theorem pages_Buffer_Bits_spec {b c d : Nat} {x : BufM} (h : Sat S w (pt b (.cells (bufC x c d) T.pages_Buffer (0, 0)) :: G)) : Ret Tryz.prog F.pages_Buffer_Bits #[.pointer (some ⟨b, 0, none⟩)] w (fun v w' => v = .int .i64 x.bits ∧ Sat S w' (pt b (.cells (bufC x c d) T.pages_Buffer (0, 0)) :: G)) := by
  refine ret_of is_pages_Buffer_Bits rfl ?_
  repeat' (first | refine stPs ?_ | fail)
  exact x_ret' is_pages_Buffer_Bits rfl ⟨rfl, h⟩

theorem pages_mark_spec (p : Int) (p0 : 0 ≤ p) (p1 : p ≤ 9223372036854775807) (h : Sat S w G) : Ret Tryz.prog F.pages_mark #[.int .i64 p] w (fun v w' => v = .int .u64 (p + 1) ∧ Sat S w' G) := by
  refine ret_of is_pages_mark rfl ?_
  repeat' (first | refine stPs ?_ | fail)
  exact x_ret' is_pages_mark rfl ⟨rfl, h⟩

theorem pages_Buffer_frame_spec {b c d : Nat} {x : BufM} (p : Int) (p0 : 0 ≤ p) (hok : BufOk x) (h : Sat S w (pt b (.cells (bufC x c d) T.pages_Buffer (0, 0)) :: isRow d x.hr :: G)) :
    Ret Tryz.prog F.pages_Buffer_frame #[.pointer (some ⟨b, 0, none⟩), .int .i64 p] w (fun v w' => v = .int .i64 (x.frame p) ∧ Sat S w' (pt b (.cells (bufC x c d) T.pages_Buffer (0, 0)) :: isRow d x.hr :: G)) := by
  refine ret_of is_pages_Buffer_frame rfl ?_
  have hf := hok.few
  repeat' (first | refine stPs ?_ | (refine stC1_P12 ?_; rintro _ w ⟨rfl, h⟩) | fail)
  exact x_ret' is_pages_Buffer_frame rfl ⟨rfl, h.pm2⟩

theorem pages_Buffer_Has_spec {b c d : Nat} {x : BufM} (p : Int) (p1 : p ≤ 9223372036854775807) (hok : BufOk x) (h : Sat S w (pt b (.cells (bufC x c d) T.pages_Buffer (0, 0)) :: isRow d x.hr :: G)) :
    Ret Tryz.prog F.pages_Buffer_Has #[.pointer (some ⟨b, 0, none⟩), .int .i64 p] w (fun v w' => BoolIs v (x.has p) ∧ Sat S w' (pt b (.cells (bufC x c d) T.pages_Buffer (0, 0)) :: isRow d x.hr :: G)) := by
  refine ret_of is_pages_Buffer_Has rfl ?_
  have hf := hok.few
  by_cases p0 : 0 ≤ p
  · repeat' (first | refine stPs ?_ | (refine stD4_P12 ?_; rintro _ w ⟨rfl, h⟩ <;> refine nowa ?_) | (refine p_cmp rfl rfl rfl rfl (fun hc => ?_) (fun hc => ?_) <;> simp only [cmpProp] at hc) | (refine r_cmp rfl rfl rfl rfl rfl (fun hc => ?_) (fun hc => ?_) <;> simp only [cmpProp] at hc) | (refine x_drawn rfl ?_; have h := h.drew) | refine x_drawn rfl ?_ | fail)
    · exact x_ret' is_pages_Buffer_Has rfl ⟨.t ⟨p0, by assumption⟩, h.pm2⟩
    · exact x_ret' is_pages_Buffer_Has rfl ⟨.f (fun hx => by have := hx.2; omega), h.pm2⟩
  · repeat' (first | refine stPs ?_ | (refine stD4_P12 ?_; rintro _ w ⟨rfl, h⟩ <;> refine nowa ?_) | (refine p_cmp rfl rfl rfl rfl (fun hc => ?_) (fun hc => ?_) <;> simp only [cmpProp] at hc) | (refine r_cmp rfl rfl rfl rfl rfl (fun hc => ?_) (fun hc => ?_) <;> simp only [cmpProp] at hc) | (refine x_drawn rfl ?_; have h := h.drew) | refine x_drawn rfl ?_ | fail)
    exact x_ret' is_pages_Buffer_Has rfl ⟨.f (fun hx => p0 hx.1), h.pm2⟩

/-- The cell of an address, and the error. -/
def BufM.atR (x : BufM) (a : Int) : Int × Int := if x.isIn a then (x.cell a, 0) else (0, 7)
theorem cell_bnd {x : BufM} (hok : BufOk x) (a : Int) : 0 ≤ x.cell a ∧ x.cell a < x.wr.ws.length ∧ x.wr.ws.length ≤ 4096 := by
  have hf := frame_bnd hok (pageZ x.bits a)
  have hl := hok.len
  have hw := hok.few
  have ho : 0 ≤ offZ x.bits a ∧ offZ x.bits a < sizeZ x.bits := by
    have hb := hok.bits
    unfold offZ
    rcases size_cases x.bits with ⟨_, h⟩ | ⟨_, h⟩ | ⟨_, h⟩ | ⟨_, h⟩ | ⟨_, h⟩ | ⟨_, h⟩ <;> rw [h] <;> (repeat' split) <;> omega
  unfold BufM.cell
  generalize x.frame (pageZ x.bits a) = f at *
  rcases size_cases x.bits with ⟨_, h⟩ | ⟨_, h⟩ | ⟨_, h⟩ | ⟨_, h⟩ | ⟨_, h⟩ | ⟨_, h⟩ <;> rw [h] at hl ho ⊢ <;> omega

set_option maxHeartbeats 4000000 in



end
end Go.Proofs.YtflbfdmmfoigaaaGreat
