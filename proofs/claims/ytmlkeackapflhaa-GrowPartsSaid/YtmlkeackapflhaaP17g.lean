/- Layer 17 (index): what a look tells is done, on both sides. -/
import Derived.Test.YtmlkeackapflhaaHxS
import Derived.Test.YtmlkeackapflhaaR17
import Derived.Test.YtmlkeackapflhaaL17
namespace Go.Proofs.Ytmlkeackapflhaa
open Go Go.HX
attribute [local irreducible] Ret XRun XOps XDr XOne Does Gives
set_option maxRecDepth 4000
set_option maxHeartbeats 1000000
theorem stC0_P17g {goal next : Prop} (k : next) (hs : Hid next → goal := by (intro k; (first | (refine gC F.index_Index_Look ?_; refine p_call rfl rfl (index_Index_Look_nil _ h) ?_) | (refine gC F.index_Index_Look ?_; refine p_call rfl rfl (index_Index_Look_spec _ ?_ ?_ ?_ (h.rf2)) ?_; iterate 3 (first | assumption | omega | (simp only []; omega) | decide)) | (refine gC F.index_Index_Turn ?_; refine p_call rfl rfl (index_Index_Turn_nil _ _ _ h) ?_) | (refine gC F.index_Index_Turn ?_; refine p_call rfl rfl (index_Index_Turn_spec _ _ _ ?_ ?_ ?_ (h.rf3)) ?_; iterate 3 (first | assumption | omega | (simp only []; omega) | decide)) | (refine gC F.ref17_Index_Turn ?_; refine p_call rfl rfl (ref17_Index_Turn_spec _ _ _ ?_ ?_ ?_ ?_ ?_ (h.rf2)) ?_; iterate 5 (first | assumption | omega | (simp only []; omega) | decide)) | (refine gC F.index_Index_Claim ?_; refine p_call rfl rfl (index_Index_Claim_nil _ _ h) ?_) | (refine gC F.index_Index_Claim ?_; refine p_call rfl rfl (index_Index_Claim_spec _ _ ?_ ?_ (h.rf3)) ?_; iterate 2 (first | assumption | omega | (simp only []; omega) | decide)) | (refine gC F.ref17_Index_Claim ?_; refine p_call rfl rfl (ref17_Index_Claim_spec _ _ ?_ ?_ ?_ ?_ (h.rf2)) ?_; iterate 4 (first | assumption | omega | (simp only []; omega) | decide)) | (refine gC F.index_Index_Spare ?_; refine p_call rfl rfl (index_Index_Spare_nil h) ?_) | (refine gC F.index_Index_Spare ?_; refine p_call rfl rfl (index_Index_Spare_spec ?_ (h.rf3)) ?_; iterate 1 (first | assumption | omega | (simp only []; omega) | decide)) | (refine gC F.ref17_Index_Spare ?_; refine p_call rfl rfl (ref17_Index_Spare_spec ?_ (h.rf2)) ?_; iterate 1 (first | assumption | omega | (simp only []; omega) | decide)) | (refine gC F.index_Index_Link ?_; refine p_call rfl rfl (index_Index_Link_nil _ _ h) ?_) | (refine gC F.index_Index_Link ?_; refine p_call rfl rfl (index_Index_Link_spec _ _ ?_ (h.rf3)) ?_; iterate 1 (first | assumption | omega | (simp only []; omega) | decide)) | (refine gC F.ref17_Index_Link ?_; refine p_call rfl rfl (ref17_Index_Link_spec _ _ ?_ ?_ (h.rf2)) ?_; iterate 2 (first | assumption | omega | (simp only []; omega) | decide)) | (refine gS ?_; (first | refine p_do rfl (d_stwL rfl rfl rfl rfl rfl (h.pick (by repeat first | exact .here | apply Has.there)) (by first | (dsimp only [Value.cells]; done) | exact rfl)) ?_ | refine p_do rfl (d_stL rfl rfl rfl (h.pick (by repeat first | exact .here | apply Has.there)) (by first | exact of_decide_eq_true rfl | simp) (by first | (dsimp only [List.set]; done) | exact rfl)) ?_)) | fail); exact k.out)) : goal := hs ⟨k⟩
theorem stC1_P17g {goal next : Prop} (k : next) (hs : Hid next → goal := by (intro k; (first | (refine gBx ?_; refine p_do rfl (d_boxL rfl h (by first | (dsimp only [Value.cells]; done) | exact rfl)) ?_) | (refine gN ?_; refine p_do rfl (d_newL h (by first | (dsimp only [Value.cells]; done) | exact rfl)) ?_) | fail); exact k.out)) : goal := hs ⟨k⟩
theorem stD2_P17g {goal next : Prop} (k : next) (hs : Hid next → goal := by (intro k; (first | (refine gCR F.ref17_Index_Look ?_; refine r_call rfl rfl rfl (ref17_Index_Look_spec _ ?_ ?_ ?_ (h.rf2)) ?_; iterate 3 (first | assumption | omega | (simp only []; omega) | decide)) | fail); exact k.out)) : goal := hs ⟨k⟩
structure Act17 where
  kind : Int
  h : Int
  slot : Int
  old : Int
  mine : Bool
  addr : Int
  bucket : Int
  spare : Int
def act17C (a : Act17) : List Value := [.int .i64 a.kind, .int .u64 a.h, .int .i64 a.slot, .int .u64 a.old, .bool a.mine, .int .u64 a.addr, .int .i64 a.bucket, .int .i64 a.spare]
theorem act17C_len (a : Act17) : (act17C a).length = 8 := rfl
noncomputable def growX (x : IdxM) (y a : Int) : IdxM :=
  if (lookV x y).kind = 1 then (turnX x (lookV x y).slot (lookV x y).word a).2
  else if (lookV x y).kind = 2 then (claimX x (lookV x y).slot y).2
  else if x.sp ≤ x.taken then x else (linkX (spareX x).2 (lookV x y).bucket (spareX x).1.1).2
theorem spare_taken {x : IdxM} (hok : RefOk x) (hf : ¬ x.sp ≤ x.taken) : (spareX x).2 = { x with tk := x.tk.add 0 1 } ∧ (spareX x).2.taken = x.taken + 1 ∧ (spareX x).2.tk.ws.length = 1 ∧ 0 ≤ (spareX x).2.tk.ws.getD 0 0 := by
  have hsp := hok.ok.sp
  have hl := hok.ok.tlen
  have h0 := hok.tkb
  have e : (spareX x).2 = { x with tk := x.tk.add 0 1 } := by rw [spareX, if_neg hf]
  have ht : (x.taken : Int) = x.tk.ws.getD 0 0 := by unfold IdxM.taken; omega
  have ha : (x.tk.add 0 1).ws = x.tk.ws.set 0 ((x.tk.ws.getD 0 0 + 1) % 18446744073709551616) := by
    unfold RowM.add
    rw [if_pos ⟨by omega, by omega⟩]
    rfl
  have hg : (x.tk.add 0 1).ws.getD 0 0 = x.tk.ws.getD 0 0 + 1 := by
    rw [ha, List.getD_eq_getElem?_getD, List.getElem?_set_self (by omega)]
    simp only [Option.getD_some]
    omega
  rw [e]
  refine ⟨rfl, ?_, by simp only; rw [ha, List.length_set]; exact hl, by simp only; omega⟩
  unfold IdxM.taken at ht ⊢
  simp only
  omega
theorem spare_ok {x : IdxM} (hok : RefOk x) (hf : ¬ x.sp ≤ x.taken) : RefOk (spareX x).2 := by
  obtain ⟨e, h1, h2, h3⟩ := spare_taken hok hf
  refine ⟨⟨?_, ?_, ?_, ?_, h2, ?_⟩, ?_, h3⟩
  · rw [e]; exact hok.ok.may
  · rw [e]; exact hok.ok.sp
  · rw [e]; exact hok.ok.len
  · rw [e]; exact hok.ok.link
  · rw [h1, e]
    simp only
    omega
  · rw [e]; exact hok.bnd
theorem look_bnd {x : IdxM} (hok : RefOk x) (y : Int) : 0 ≤ (lookV x y).slot ∧ (lookV x y).slot ≤ 100000 ∧ 0 ≤ (lookV x y).word ∧ (lookV x y).word ≤ 18446744073709551615 ∧ 0 ≤ (lookV x y).bucket ∧ (lookV x y).bucket < x.all ∧ (lookV x y).kind ≠ 0 := by
  have hs := idx_small hok.ok
  have hbk := bucket_lt (h := y) hok.ok.may
  have hha : ∀ k ∈ x.home y, k < x.all := chainG_all hok.ok.link _ _ (by omega)
  have hhs : ∀ i : Nat, 0 ≤ (x.homes y).getD i 0 ∧ (x.homes y).getD i 0 ≤ 100000 := fun i => by
    rw [List.getD_eq_getElem?_getD]
    cases hx : (x.homes y)[i]? with
    | none => simp
    | some z =>
      have hz := List.mem_of_getElem? hx
      unfold IdxM.homes natsZ at hz
      obtain ⟨n, hn, rfl⟩ := List.mem_map.1 hz
      have := hha _ (mem_slots.1 hn).2
      simp only [Option.getD_some]
      omega
  have hlb : 0 ≤ x.last y ∧ x.last y < x.all := by
    unfold IdxM.last
    rw [List.getD_eq_getElem?_getD]
    cases hx : (natsZ (x.home y))[(x.home y).length - 1]? with
    | none => simp; omega
    | some z =>
      unfold natsZ at hx
      rw [List.getElem?_map] at hx
      cases hy : (x.home y)[(x.home y).length - 1]? with
      | none => rw [hy] at hx; cases hx
      | some n =>
        rw [hy] at hx
        simp only [Option.map_some, Option.some.injEq] at hx
        subst hx
        have := hha _ (List.mem_of_getElem? hy)
        simp only [Option.getD_some]
        omega
  have hld : ∀ s, 0 ≤ x.row.load s ∧ x.row.load s ≤ 18446744073709551615 := fun s => by
    unfold RowM.load
    split
    · exact hok.bnd _
    · simp
  unfold lookV
  split
  · exact ⟨(hhs _).1, (hhs _).2, (hld _).1, (hld _).2, hlb.1, hlb.2, by simp⟩
  · split
    · exact ⟨(hhs _).1, (hhs _).2, by simp, by simp, hlb.1, hlb.2, by simp⟩
    · exact ⟨by simp, by simp, by simp, by simp, hlb.1, hlb.2, by simp⟩
theorem look_kinds (x : IdxM) (y : Int) : (lookV x y).kind = 1 ∨ (lookV x y).kind = 2 ∨ (lookV x y).kind = 3 := by
  unfold lookV
  split
  · simp
  · split <;> simp
section
variable {S : SP} {w : World} {G : List HProp}

set_option maxHeartbeats 8000000 in
theorem law17_grows_spec {b c d m q len cap : Nat} {x : IdxM} (a : Act17) (hok : RefOk x) (h0 : 0 ≤ a.h) (h1 : a.h ≤ 18446744073709551615) (a0 : 0 ≤ a.addr) (hcl : (lookV x a.h).kind = 2 → (claimX x (lookV x a.h).slot a.h).1.1 = true) (h : Sat S w (pt b (.cells (idxC (x) c d) T.index_Index (0, 0)) :: isRow c (x).row :: isRow d (x).tk :: pt m (.cells (refC (x) (.slice (some ⟨q, 0, none⟩) len cap)) T.haycroftref17_Index (0, 0)) :: ownS T.arr_8_uint64 8 (.slice (some ⟨q, 0, none⟩) len cap) (ints .u64 (x).row.ws) :: G)) :
    Ret Try.prog F.law17_grows #[.pointer (some ⟨b, 0, none⟩), .pointer (some ⟨m, 0, none⟩), .agg (act17C a).toArray] w (fun v w' => v = .bool true ∧ Sat S w' (pt b (.cells (idxC (growX x a.h a.addr) c d) T.index_Index (0, 0)) :: isRow c (growX x a.h a.addr).row :: isRow d (growX x a.h a.addr).tk :: pt m (.cells (refC (growX x a.h a.addr) (.slice (some ⟨q, 0, none⟩) len cap)) T.haycroftref17_Index (0, 0)) :: ownS T.arr_8_uint64 8 (.slice (some ⟨q, 0, none⟩) len cap) (ints .u64 (growX x a.h a.addr).row.ws) :: G)) := by
  have hlb := look_bnd hok a.h
  have hi := hok.ok
  have hsp := hi.spOk
  have hlk := look_kinds x a.h
  have hE : ∀ l : LookM, lookV x a.h = l → growX x a.h a.addr = if l.kind = 1 then (turnX x l.slot l.word a.addr).2 else if l.kind = 2 then (claimX x l.slot a.h).2 else if x.sp ≤ x.taken then x else (linkX (spareX x).2 l.bucket (spareX x).1.1).2 := fun l e => by subst e; rfl
  refine ret_of is_law17_grows rfl ?_
  obtain ⟨l, hl⟩ : ∃ l, lookV x a.h = l := ⟨_, rfl⟩
  rw [hE l hl]
  rw [hl] at hlb hlk hcl
  rcases hlk with hk | hk | hk
  · rw [if_pos hk]
    obtain ⟨⟨⟨qb, qe⟩, qx⟩, hq⟩ : ∃ r, turnX x l.slot l.word a.addr = r := ⟨_, rfl⟩
    rw [hq]
    cases qb
    all_goals
      repeat' (first | (refine gC F.index_Index_Look ?_; refine p_call rfl rfl (index_Index_Look_spec _ h0 h1 hi (h.rf2)) ?_; rw [hl]; rintro _ w ⟨rfl, h⟩) | (refine gCR F.ref17_Index_Look ?_; refine r_call rfl rfl rfl (ref17_Index_Look_spec _ hok h0 h1 (h.rf2)) ?_; rw [hl]; rintro _ w ⟨rfl, h⟩; refine nowa ?_) | (refine gD ?_; refine r_eqa rfl rfl rfl rfl rfl rfl rfl (fun hc => ?_) (fun hc => absurd ⟨rfl, rfl, rfl, rfl, trivial⟩ hc)) | (refine gC F.index_Index_Turn ?_; refine p_call rfl rfl (index_Index_Turn_spec l.slot l.word a.addr (by omega) (by omega) a0 (h.rf3)) ?_; rw [hq]; rintro _ w ⟨rfl, h⟩) | (refine gC F.ref17_Index_Turn ?_; refine p_call rfl rfl (ref17_Index_Turn_spec l.slot l.word a.addr hok (by omega) (by omega) (by omega) a0 (h.rf2)) ?_; rw [hq]; rintro _ w ⟨rfl, h⟩) | refine stP ?_ | (refine stC0_P17g ?_; rintro _ w ⟨rfl, h⟩) | (refine stC1_P17g ?_; rintro _ w ⟨bx, rfl, h⟩) | (refine stD2_P17g ?_; rintro _ w ⟨rfl, h⟩ <;> refine nowa ?_) | (refine p_cmp rfl rfl rfl rfl (fun hc => ?_) (fun hc => ?_) <;> simp only [cmpProp] at hc) | refine p_eqa rfl rfl rfl rfl rfl rfl (fun hc => ?_) (fun hc => ?_) | (refine r_cmp rfl rfl rfl rfl rfl (fun hc => ?_) (fun hc => ?_) <;> simp only [cmpProp] at hc) | refine r_eqa rfl rfl rfl rfl rfl rfl rfl (fun hc => ?_) (fun hc => ?_) | (refine x_drawn rfl ?_; have h := h.drew) | refine x_drawn rfl ?_ | fail)
      exact x_ret' is_law17_grows rfl ⟨rfl, h.pm5⟩
  · rw [if_neg (by omega), if_pos hk]
    obtain ⟨⟨⟨qb, qe⟩, qx⟩, hq⟩ : ∃ r, claimX x l.slot a.h = r := ⟨_, rfl⟩
    have hqb := hcl hk
    rw [hq] at hqb ⊢
    simp only at hqb
    subst hqb
    repeat' (first | (refine gC F.index_Index_Look ?_; refine p_call rfl rfl (index_Index_Look_spec _ h0 h1 hi (h.rf2)) ?_; rw [hl]; rintro _ w ⟨rfl, h⟩) | (refine gCR F.ref17_Index_Look ?_; refine r_call rfl rfl rfl (ref17_Index_Look_spec _ hok h0 h1 (h.rf2)) ?_; rw [hl]; rintro _ w ⟨rfl, h⟩; refine nowa ?_) | (refine gD ?_; refine r_eqa rfl rfl rfl rfl rfl rfl rfl (fun hc => ?_) (fun hc => absurd ⟨rfl, rfl, rfl, rfl, trivial⟩ hc)) | (refine gC F.index_Index_Claim ?_; refine p_call rfl rfl (index_Index_Claim_spec l.slot a.h h0 h1 (h.rf3)) ?_; rw [hq]; rintro _ w ⟨rfl, h⟩) | (refine gC F.ref17_Index_Claim ?_; refine p_call rfl rfl (ref17_Index_Claim_spec l.slot a.h hok (by omega) h0 h1 (h.rf2)) ?_; rw [hq]; rintro _ w ⟨rfl, h⟩) | refine stP ?_ | (refine stC0_P17g ?_; rintro _ w ⟨rfl, h⟩) | (refine stC1_P17g ?_; rintro _ w ⟨bx, rfl, h⟩) | (refine stD2_P17g ?_; rintro _ w ⟨rfl, h⟩ <;> refine nowa ?_) | (refine p_cmp rfl rfl rfl rfl (fun hc => ?_) (fun hc => ?_) <;> simp only [cmpProp] at hc) | refine p_eqa rfl rfl rfl rfl rfl rfl (fun hc => ?_) (fun hc => ?_) | (refine r_cmp rfl rfl rfl rfl rfl (fun hc => ?_) (fun hc => ?_) <;> simp only [cmpProp] at hc) | refine r_eqa rfl rfl rfl rfl rfl rfl rfl (fun hc => ?_) (fun hc => ?_) | (refine x_drawn rfl ?_; have h := h.drew) | refine x_drawn rfl ?_ | fail)
    exact x_ret' is_law17_grows rfl ⟨rfl, h.pm5⟩
  · rw [if_neg (by omega), if_neg (by omega)]
    by_cases hf : x.sp ≤ x.taken
    · rw [if_pos hf]
      have hsq : spareX x = ((0, 9), x) := by rw [spareX, if_pos hf]
      repeat' (first | (refine gC F.index_Index_Look ?_; refine p_call rfl rfl (index_Index_Look_spec _ h0 h1 hi (h.rf2)) ?_; rw [hl]; rintro _ w ⟨rfl, h⟩) | (refine gCR F.ref17_Index_Look ?_; refine r_call rfl rfl rfl (ref17_Index_Look_spec _ hok h0 h1 (h.rf2)) ?_; rw [hl]; rintro _ w ⟨rfl, h⟩; refine nowa ?_) | (refine gD ?_; refine r_eqa rfl rfl rfl rfl rfl rfl rfl (fun hc => ?_) (fun hc => absurd ⟨rfl, rfl, rfl, rfl, trivial⟩ hc)) | (refine gC F.index_Index_Spare ?_; refine p_call rfl rfl (index_Index_Spare_spec hsp (h.rf3)) ?_; rw [hsq]; rintro _ w ⟨rfl, h⟩) | (refine gC F.ref17_Index_Spare ?_; refine p_call rfl rfl (ref17_Index_Spare_spec hok (h.rf2)) ?_; rw [hsq]; rintro _ w ⟨rfl, h⟩) | refine stP ?_ | (refine stC0_P17g ?_; rintro _ w ⟨rfl, h⟩) | (refine stC1_P17g ?_; rintro _ w ⟨bx, rfl, h⟩) | (refine stD2_P17g ?_; rintro _ w ⟨rfl, h⟩ <;> refine nowa ?_) | (refine p_cmp rfl rfl rfl rfl (fun hc => ?_) (fun hc => ?_) <;> simp only [cmpProp] at hc) | refine p_eqa rfl rfl rfl rfl rfl rfl (fun hc => ?_) (fun hc => ?_) | (refine r_cmp rfl rfl rfl rfl rfl (fun hc => ?_) (fun hc => ?_) <;> simp only [cmpProp] at hc) | refine r_eqa rfl rfl rfl rfl rfl rfl rfl (fun hc => ?_) (fun hc => ?_) | (refine x_drawn rfl ?_; have h := h.drew) | refine x_drawn rfl ?_ | fail)
      exact x_ret' is_law17_grows rfl ⟨rfl, h.pm5⟩
    · rw [if_neg hf]
      have hok2 := spare_ok hok hf
      obtain ⟨⟨⟨sa, se⟩, sx⟩, hsq⟩ : ∃ r, spareX x = r := ⟨_, rfl⟩
      have hse : sa = (x.nb : Int) + x.taken ∧ se = 0 := by
        rw [spareX, if_neg hf] at hsq
        cases hsq
        exact ⟨rfl, rfl⟩
      obtain ⟨hsa, rfl⟩ := hse
      rw [hsq] at hok2 ⊢
      simp only at hok2 ⊢
      obtain ⟨⟨⟨qb, qe⟩, qx⟩, hq⟩ : ∃ r, linkX sx l.bucket sa = r := ⟨_, rfl⟩
      rw [hq]
      cases qb
      all_goals
        repeat' (first | (refine gC F.index_Index_Look ?_; refine p_call rfl rfl (index_Index_Look_spec _ h0 h1 hi (h.rf2)) ?_; rw [hl]; rintro _ w ⟨rfl, h⟩) | (refine gCR F.ref17_Index_Look ?_; refine r_call rfl rfl rfl (ref17_Index_Look_spec _ hok h0 h1 (h.rf2)) ?_; rw [hl]; rintro _ w ⟨rfl, h⟩; refine nowa ?_) | (refine gD ?_; refine r_eqa rfl rfl rfl rfl rfl rfl rfl (fun hc => ?_) (fun hc => absurd ⟨rfl, rfl, rfl, rfl, trivial⟩ hc)) | (refine gC F.index_Index_Spare ?_; refine p_call rfl rfl (index_Index_Spare_spec hsp (h.rf3)) ?_; rw [hsq]; rintro _ w ⟨rfl, h⟩) | (refine gC F.ref17_Index_Spare ?_; refine p_call rfl rfl (ref17_Index_Spare_spec hok (h.rf2)) ?_; rw [hsq]; rintro _ w ⟨rfl, h⟩) | (refine gC F.index_Index_Link ?_; refine p_call rfl rfl (index_Index_Link_spec (x := sx) l.bucket sa hok2.ok (h.rf3)) ?_; rw [hq]; rintro _ w ⟨rfl, h⟩) | (refine gC F.ref17_Index_Link ?_; refine p_call rfl rfl (ref17_Index_Link_spec (x := sx) l.bucket sa hok2 (by omega) (h.rf2)) ?_; rw [hq]; rintro _ w ⟨rfl, h⟩) | refine stP ?_ | (refine stC0_P17g ?_; rintro _ w ⟨rfl, h⟩) | (refine stC1_P17g ?_; rintro _ w ⟨bx, rfl, h⟩) | (refine stD2_P17g ?_; rintro _ w ⟨rfl, h⟩ <;> refine nowa ?_) | (refine p_cmp rfl rfl rfl rfl (fun hc => ?_) (fun hc => ?_) <;> simp only [cmpProp] at hc) | refine p_eqa rfl rfl rfl rfl rfl rfl (fun hc => ?_) (fun hc => ?_) | (refine r_cmp rfl rfl rfl rfl rfl (fun hc => ?_) (fun hc => ?_) <;> simp only [cmpProp] at hc) | refine r_eqa rfl rfl rfl rfl rfl rfl rfl (fun hc => ?_) (fun hc => ?_) | (refine x_drawn rfl ?_; have h := h.drew) | refine x_drawn rfl ?_ | fail)
        exact x_ret' is_law17_grows rfl ⟨rfl, h.pm5⟩
end
end Go.Proofs.Ytmlkeackapflhaa
