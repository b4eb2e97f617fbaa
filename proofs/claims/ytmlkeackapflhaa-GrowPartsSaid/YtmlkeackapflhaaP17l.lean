/- Layer 17 (index): looks, and what is done as they tell. -/
import Derived.Test.YtmlkeackapflhaaHxS
import Derived.Test.YtmlkeackapflhaaP17
namespace Go.Proofs.Ytmlkeackapflhaa
open Go Go.HX
attribute [local irreducible] Ret XRun XOps XDr XOne Does Gives
set_option maxRecDepth 4000
set_option maxHeartbeats 1000000
-- MACRO IDX(x) = pt b (.cells (idxC (x) c d) T.index_Index (0, 0)) :: isRow c (x).row :: isRow d (x).tk
theorem stD0_P17l {goal next : Prop} (k : next) (hs : Hid next → goal := by (intro k; (first | (refine gCR F.cell_Row_Load ?_; refine r_call rfl rfl rfl (cell_Row_Load_spec _ (h.rf1)) ?_) | (refine gCR F.cell_Row_Load ?_; refine r_call rfl rfl rfl (cell_Row_Load_nil _ h) ?_) | (refine gCR F.mix_Tag ?_; refine r_call rfl rfl rfl (mix_Tag_spec _ ?_ ?_ h) ?_; iterate 2 (first | assumption | omega | (simp only []; omega) | decide)) | (refine gCR F.mix_Bucket ?_; refine r_call rfl rfl rfl (mix_Bucket_spec _ _ ?_ ?_ h) ?_; iterate 2 (first | assumption | omega | (simp only []; omega) | decide)) | (refine gCR F.index_Index_Chain ?_; refine r_call rfl rfl rfl (index_Index_Chain_nil _ h) ?_) | (refine gSR ?_; (first | refine r_do rfl rfl (d_stwL rfl rfl rfl rfl rfl (h.pick (by repeat first | exact .here | apply Has.there)) (by first | (dsimp only [Value.cells]; done) | exact rfl)) ?_ | refine r_do rfl rfl (d_stL rfl rfl rfl (h.pick (by repeat first | exact .here | apply Has.there)) (by first | exact of_decide_eq_true rfl | simp) (by first | (dsimp only [List.set]; done) | exact rfl)) ?_)) | fail); exact k.out)) : goal := hs ⟨k⟩
theorem stD1_P17l {goal next : Prop} (k : next) (hs : Hid next → goal := by (intro k; (first | (refine gCR F.entry_Has ?_; refine r_call rfl rfl rfl (entry_Has_spec _ _ ?_ ?_ h) ?_; iterate 2 (first | assumption | omega | (simp only []; omega) | decide)) | fail); exact k.out)) : goal := hs ⟨k⟩
theorem stC2_P17l {goal next : Prop} (k : next) (hs : Hid next → goal := by (intro k; (first | (refine gC F.cell_Row_Load ?_; refine p_call rfl rfl (cell_Row_Load_spec _ (h.rf1)) ?_) | (refine gC F.cell_Row_Load ?_; refine p_call rfl rfl (cell_Row_Load_nil _ h) ?_) | (refine gS ?_; (first | refine p_do rfl (d_stwL rfl rfl rfl rfl rfl (h.pick (by repeat first | exact .here | apply Has.there)) (by first | (dsimp only [Value.cells]; done) | exact rfl)) ?_ | refine p_do rfl (d_stL rfl rfl rfl (h.pick (by repeat first | exact .here | apply Has.there)) (by first | exact of_decide_eq_true rfl | simp) (by first | (dsimp only [List.set]; done) | exact rfl)) ?_)) | fail); exact k.out)) : goal := hs ⟨k⟩
theorem stC3_P17l {goal next : Prop} (k : next) (hs : Hid next → goal := by (intro k; (first | (refine gBx ?_; refine p_do rfl (d_boxL rfl h (by first | (dsimp only [Value.cells]; done) | exact rfl)) ?_) | (refine gN ?_; refine p_do rfl (d_newL h (by first | (dsimp only [Value.cells]; done) | exact rfl)) ?_) | fail); exact k.out)) : goal := hs ⟨k⟩
theorem stD4_P17l {goal next : Prop} (k : next) (hs : Hid next → goal := by (intro k; (first | (refine gCR F.index_Index_Chain ?_; refine r_call rfl rfl rfl (index_Index_Chain_spec _ ?_ (h.rf2)) ?_; iterate 1 (first | assumption | omega | (simp only []; omega) | decide)) | fail); exact k.out)) : goal := hs ⟨k⟩
def tagZ (h : Int) : Int := h / 1125899906842624
def hasE (w t : Int) : Bool := decide ((unpackE w).2 = 0 ∧ (unpackE w).1.tag = t)
structure LookM where
  kind : Int
  slot : Int
  word : Int
  bucket : Int
def lookC (l : LookM) : List Value := [.int .i64 l.kind, .int .i64 l.slot, .int .u64 l.word, .int .i64 l.bucket]
def IdxM.home (x : IdxM) (h : Int) : List Nat := x.chain (bucketZ h x.nb).toNat
def IdxM.last (x : IdxM) (h : Int) : Int := (natsZ (x.home h)).getD ((x.home h).length - 1) 0
def IdxM.homes (x : IdxM) (h : Int) : List Int := natsZ (slotsG (x.home h))
def IdxM.found (x : IdxM) (h : Int) : Int := findZ (fun s => hasE (x.row.load s) (tagZ h)) (x.homes h)
def IdxM.free (x : IdxM) (h : Int) : Int := findZ (fun s => decide (x.row.load s = 0)) (x.homes h)
def lookV (x : IdxM) (h : Int) : LookM :=
  if 0 ≤ x.found h then ⟨1, (x.homes h).getD (x.found h).toNat 0, x.row.load ((x.homes h).getD (x.found h).toNat 0), x.last h⟩
  else if 0 ≤ x.free h then ⟨2, (x.homes h).getD (x.free h).toNat 0, 0, x.last h⟩ else ⟨3, 0, 0, x.last h⟩
theorem findZ_lt {α : Type} {p : α → Bool} {l : List α} : -1 ≤ findZ p l ∧ findZ p l < l.length := by
  unfold findZ
  cases hf : l.findIdx? p with
  | none => simp only; omega
  | some i =>
    have := (List.findIdx?_eq_some_iff_getElem.1 hf).1
    simp only
    omega
theorem chain_ne {lnk : Nat → Nat} {f b : Nat} : 1 ≤ (chainG lnk (f + 1) b).length := by simp [chainG]
section
variable {S : SP} {w : World} {G : List HProp}

theorem index_Index_Look_1_spec {bx bh b c d : Nat} {x : IdxM} {y : Int} (s : Int) (y0 : 0 ≤ y) (y1 : y ≤ 18446744073709551615) (h : Sat S w (pt bx (.cells #[.pointer (some ⟨b, 0, none⟩)] T.ptr_index_Index (0, 0)) :: pt bh (.cells #[.int .u64 y] T.uint64 (0, 0)) :: pt b (.cells (idxC x c d) T.index_Index (0, 0)) :: isRow c x.row :: G)) :
    Ret Try.prog F.index_Index_Look_1 #[.int .i64 s, .pointer (some ⟨bx, 0, none⟩), .pointer (some ⟨bh, 0, none⟩)] w (fun v w' => v = .bool (hasE (x.row.load s) (tagZ y)) ∧ Sat S w' (pt bx (.cells #[.pointer (some ⟨b, 0, none⟩)] T.ptr_index_Index (0, 0)) :: pt bh (.cells #[.int .u64 y] T.uint64 (0, 0)) :: pt b (.cells (idxC x c d) T.index_Index (0, 0)) :: isRow c x.row :: G)) := by
  refine ret_of is_index_Index_Look_1 rfl ?_
  have hr := RowM.load_ok (isRow_ok h (by repeat first | exact .here | apply Has.there)) s
  obtain ⟨hr0, hr1⟩ := hr
  have ht : 0 ≤ y / 1125899906842624 := Int.ediv_nonneg y0 (by decide)
  repeat' (first | refine stPs ?_ | (refine stD0_P17l ?_; rintro _ w ⟨rfl, h⟩ <;> refine nowa ?_) | (refine stD1_P17l ?_; rintro _ w ⟨(⟨rfl, hb⟩ | ⟨rfl, hb⟩), h⟩ <;> refine nowa ?_) | (refine x_drawn rfl ?_; have h := h.drew) | refine x_drawn rfl ?_ | fail)
  · exact x_ret' is_index_Index_Look_1 rfl ⟨by unfold hasE tagZ; rw [decide_eq_true hb]; rfl, h.pm4⟩
  · exact x_ret' is_index_Index_Look_1 rfl ⟨by unfold hasE tagZ; rw [decide_eq_false hb]; rfl, h.pm4⟩

theorem index_Index_Look_2_spec {bx b c d : Nat} {x : IdxM} (s : Int) (h : Sat S w (pt bx (.cells #[.pointer (some ⟨b, 0, none⟩)] T.ptr_index_Index (0, 0)) :: pt b (.cells (idxC x c d) T.index_Index (0, 0)) :: isRow c x.row :: G)) :
    Ret Try.prog F.index_Index_Look_2 #[.int .i64 s, .pointer (some ⟨bx, 0, none⟩)] w (fun v w' => v = .bool (decide (x.row.load s = 0)) ∧ Sat S w' (pt bx (.cells #[.pointer (some ⟨b, 0, none⟩)] T.ptr_index_Index (0, 0)) :: pt b (.cells (idxC x c d) T.index_Index (0, 0)) :: isRow c x.row :: G)) := by
  refine ret_of is_index_Index_Look_2 rfl ?_
  repeat' (first | (refine gB .eql ?_; refine p_val rfl (g_cmp rfl rfl rfl) ?_) | refine stP ?_ | (refine stC2_P17l ?_; rintro _ w ⟨rfl, h⟩) | (refine p_cmp rfl rfl rfl rfl (fun hc => ?_) (fun hc => ?_) <;> simp only [cmpProp] at hc) | fail)
  exact x_ret' is_index_Index_Look_2 rfl ⟨rfl, h.pm3⟩

set_option maxHeartbeats 8000000 in
theorem index_Index_Look_spec {b c d : Nat} {x : IdxM} (y : Int) (y0 : 0 ≤ y) (y1 : y ≤ 18446744073709551615) (hok : IdxOk x) (h : Sat S w (pt b (.cells (idxC x c d) T.index_Index (0, 0)) :: isRow c x.row :: G)) :
    Ret Try.prog F.index_Index_Look #[.pointer (some ⟨b, 0, none⟩), .int .u64 y] w (fun v w' => v = .tuple #[.agg (lookC (lookV x y)).toArray, .int .i64 0] ∧ Sat S w' (pt b (.cells (idxC x c d) T.index_Index (0, 0)) :: isRow c x.row :: G)) := by
  refine ret_of is_index_Index_Look rfl ?_
  have hs := idx_small hok
  have hbk := bucket_lt (h := y) hok.may
  have hch : x.chainZ (bucketZ y x.nb) = x.home y := by unfold IdxM.chainZ IdxM.home; rw [if_pos (by omega)]
  have hhl := chainG_length x.lnk (x.all + 1) (bucketZ y x.nb).toNat
  have hhe : 1 ≤ (x.home y).length := chain_ne
  have hha : ∀ k ∈ x.home y, k < x.all := chainG_all hok.link _ _ (by omega)
  have hhl : (x.home y).length ≤ x.all + 1 := hhl
  have hsl : (x.homes y).length = (x.home y).length * 7 := by unfold IdxM.homes; rw [natsZ_length, slotsG_length]
  have hf1 := findZ_lt (p := fun s => hasE (x.row.load s) (tagZ y)) (l := x.homes y)
  have hf2 := findZ_lt (p := fun s => decide (x.row.load s = 0)) (l := x.homes y)
  have hE1 : x.found y = findZ (fun s => hasE (x.row.load s) (tagZ y)) (x.homes y) := rfl
  have hE2 : x.free y = findZ (fun s => decide (x.row.load s = 0)) (x.homes y) := rfl
  repeat' (first | refine stPs ?_ | (refine stC3_P17l ?_; rintro _ w ⟨bx, rfl, h⟩) | (refine stC2_P17l ?_; rintro _ w ⟨rfl, h⟩) | (refine stD0_P17l ?_; rintro _ w ⟨rfl, h⟩ <;> refine nowa ?_) | (refine stD4_P17l ?_; rintro v w h <;> refine nowa ?_) | (refine p_cmp rfl rfl rfl rfl (fun hc => ?_) (fun hc => ?_) <;> simp only [cmpProp] at hc) | (refine r_cmp rfl rfl rfl rfl rfl (fun hc => ?_) (fun hc => ?_) <;> simp only [cmpProp] at hc) | (refine x_drawn rfl ?_; have h := h.drew) | refine x_drawn rfl ?_ | fail)
  rw [hch] at h
  obtain ⟨va, vl, vc, rfl, hvl, _⟩ := ownS_slice h .here
  rw [ints_length, natsZ_length, Nat.mul_one] at hvl
  obtain ⟨pa, rfl⟩ := ownS_addr h .here (by omega)
  have hlast : (natsZ (x.home y)).getD (vl - 1) 0 = x.last y := by rw [← hvl]; rfl
  repeat' (first | (refine gL ?_; refine p_val rfl (g_ldI (i := vl - 1) rfl (ownS_rd h .here) (by omega) (by rw [natsZ_length]; omega)) ?_; rw [hlast]) | refine stP ?_ | (refine stC3_P17l ?_; rintro _ w ⟨bx, rfl, h⟩) | (refine stC2_P17l ?_; rintro _ w ⟨rfl, h⟩) | (refine stD0_P17l ?_; rintro _ w ⟨rfl, h⟩ <;> refine nowa ?_) | (refine stD4_P17l ?_; rintro v w h <;> refine nowa ?_) | (refine p_cmp rfl rfl rfl rfl (fun hc => ?_) (fun hc => ?_) <;> simp only [cmpProp] at hc) | (refine r_cmp rfl rfl rfl rfl rfl (fun hc => ?_) (fun hc => ?_) <;> simp only [cmpProp] at hc) | (refine x_drawn rfl ?_; have h := h.drew) | refine x_drawn rfl ?_ | fail)
  refine p_call rfl rfl (index_slots_spec (x.home y) (by omega) (fun k hk => by have := hha k hk; omega) h) ?_
  rintro vs w h
  have h : Sat S w (ownS T.int 1 vs (ints .i64 (x.homes y)) :: _) := h
  repeat' (first | refine stPs ?_ | (refine stC3_P17l ?_; rintro _ w ⟨bx, rfl, h⟩) | (refine stC2_P17l ?_; rintro _ w ⟨rfl, h⟩) | (refine stD0_P17l ?_; rintro _ w ⟨rfl, h⟩ <;> refine nowa ?_) | (refine stD4_P17l ?_; rintro v w h <;> refine nowa ?_) | (refine p_cmp rfl rfl rfl rfl (fun hc => ?_) (fun hc => ?_) <;> simp only [cmpProp] at hc) | (refine r_cmp rfl rfl rfl rfl rfl (fun hc => ?_) (fun hc => ?_) <;> simp only [cmpProp] at hc) | (refine x_drawn rfl ?_; have h := h.drew) | refine x_drawn rfl ?_ | fail)
  refine p_call rfl rfl (slices_IndexFunc_int_int_spec (x.homes y) (fun s => hasE (x.row.load s) (tagZ y)) bd_index_Index_Look_1 (by omega) (fun s hs w h => ?_) h) ?_
  · refine Ret.mono (index_Index_Look_1_spec s y0 y1 (h.pm4)) ?_
    rintro v w' ⟨rfl, h⟩
    exact ⟨rfl, h.pm7⟩
  rintro _ w ⟨rfl, h⟩
  rw [← hE1]
  obtain ⟨sa, sl, sc, rfl, hvs, _⟩ := ownS_slice h .here
  rw [ints_length, Nat.mul_one] at hvs
  obtain ⟨ps, rfl⟩ := ownS_addr h .here (by omega)
  by_cases c1 : 0 ≤ x.found y
  · have e : lookV x y = ⟨1, (x.homes y).getD (x.found y).toNat 0, x.row.load ((x.homes y).getD (x.found y).toNat 0), x.last y⟩ := by rw [lookV, if_pos c1]
    rw [e]
    generalize x.found y = i at *
    repeat' (first | (refine gLR ?_; refine r_own rfl rfl rfl h (fun w h => g_ldI (i := i.toNat) rfl (ownS_rd h .here) (by omega) (by omega)) ?_) | refine stP ?_ | (refine stC3_P17l ?_; rintro _ w ⟨bx, rfl, h⟩) | (refine stC2_P17l ?_; rintro _ w ⟨rfl, h⟩) | (refine stD0_P17l ?_; rintro _ w ⟨rfl, h⟩ <;> refine nowa ?_) | (refine stD4_P17l ?_; rintro v w h <;> refine nowa ?_) | (refine p_cmp rfl rfl rfl rfl (fun hc => ?_) (fun hc => ?_) <;> simp only [cmpProp] at hc) | (refine r_cmp rfl rfl rfl rfl rfl (fun hc => ?_) (fun hc => ?_) <;> simp only [cmpProp] at hc) | (refine x_drawn rfl ?_; have h := h.drew) | refine x_drawn rfl ?_ | fail)
    exact x_retc is_index_Index_Look (vs := [.agg (lookC ⟨1, (x.homes y).getD i.toNat 0, x.row.load ((x.homes y).getD i.toNat 0), x.last y⟩).toArray, .int .i64 0]) ⟨_, _, _, rfl, rfl, load_pt (h.pick (by repeat first | exact .here | apply Has.there)) (by kernel_rfl) rfl, _, _, rfl, rfl, rfl⟩ ⟨rfl, h.pm2⟩
  · repeat' (first | refine stPs ?_ | (refine stC3_P17l ?_; rintro _ w ⟨bx, rfl, h⟩) | (refine stC2_P17l ?_; rintro _ w ⟨rfl, h⟩) | (refine stD0_P17l ?_; rintro _ w ⟨rfl, h⟩ <;> refine nowa ?_) | (refine stD4_P17l ?_; rintro v w h <;> refine nowa ?_) | (refine p_cmp rfl rfl rfl rfl (fun hc => ?_) (fun hc => ?_) <;> simp only [cmpProp] at hc) | (refine r_cmp rfl rfl rfl rfl rfl (fun hc => ?_) (fun hc => ?_) <;> simp only [cmpProp] at hc) | (refine x_drawn rfl ?_; have h := h.drew) | refine x_drawn rfl ?_ | fail)
    refine p_call rfl rfl (slices_IndexFunc_int_int_spec (x.homes y) (fun s => decide (x.row.load s = 0)) bd_index_Index_Look_2 (by omega) (fun s hs w h => ?_) h) ?_
    · refine Ret.mono (index_Index_Look_2_spec s (h.pm3)) ?_
      rintro v w' ⟨rfl, h⟩
      exact ⟨rfl, h.pm⟩
    rintro _ w ⟨rfl, h⟩
    rw [← hE2]
    by_cases c2 : 0 ≤ x.free y
    · have e : lookV x y = ⟨2, (x.homes y).getD (x.free y).toNat 0, 0, x.last y⟩ := by rw [lookV, if_neg c1, if_pos c2]
      rw [e]
      generalize x.free y = i at *
      repeat' (first | (refine gL ?_; refine p_val rfl (g_ldI (i := i.toNat) rfl (ownS_rd h .here) (by omega) (by omega)) ?_) | refine stP ?_ | (refine stC3_P17l ?_; rintro _ w ⟨bx, rfl, h⟩) | (refine stC2_P17l ?_; rintro _ w ⟨rfl, h⟩) | (refine stD0_P17l ?_; rintro _ w ⟨rfl, h⟩ <;> refine nowa ?_) | (refine stD4_P17l ?_; rintro v w h <;> refine nowa ?_) | (refine p_cmp rfl rfl rfl rfl (fun hc => ?_) (fun hc => ?_) <;> simp only [cmpProp] at hc) | (refine r_cmp rfl rfl rfl rfl rfl (fun hc => ?_) (fun hc => ?_) <;> simp only [cmpProp] at hc) | (refine x_drawn rfl ?_; have h := h.drew) | refine x_drawn rfl ?_ | fail)
      exact x_retc is_index_Index_Look (vs := [.agg (lookC ⟨2, (x.homes y).getD i.toNat 0, 0, x.last y⟩).toArray, .int .i64 0]) ⟨_, _, _, rfl, rfl, load_pt (h.pick (by repeat first | exact .here | apply Has.there)) (by kernel_rfl) rfl, _, _, rfl, rfl, rfl⟩ ⟨rfl, h.pm2⟩
    · have e : lookV x y = ⟨3, 0, 0, x.last y⟩ := by rw [lookV, if_neg c1, if_neg c2]
      rw [e]
      repeat' (first | refine stPs ?_ | (refine stC3_P17l ?_; rintro _ w ⟨bx, rfl, h⟩) | (refine stC2_P17l ?_; rintro _ w ⟨rfl, h⟩) | (refine stD0_P17l ?_; rintro _ w ⟨rfl, h⟩ <;> refine nowa ?_) | (refine stD4_P17l ?_; rintro v w h <;> refine nowa ?_) | (refine p_cmp rfl rfl rfl rfl (fun hc => ?_) (fun hc => ?_) <;> simp only [cmpProp] at hc) | (refine r_cmp rfl rfl rfl rfl rfl (fun hc => ?_) (fun hc => ?_) <;> simp only [cmpProp] at hc) | (refine x_drawn rfl ?_; have h := h.drew) | refine x_drawn rfl ?_ | fail)
      exact x_retc is_index_Index_Look (vs := [.agg (lookC ⟨3, 0, 0, x.last y⟩).toArray, .int .i64 0]) ⟨_, _, _, rfl, rfl, load_pt (h.pick (by repeat first | exact .here | apply Has.there)) (by kernel_rfl) rfl, _, _, rfl, rfl, rfl⟩ ⟨rfl, h.pm2⟩
end
end Go.Proofs.Ytmlkeackapflhaa
