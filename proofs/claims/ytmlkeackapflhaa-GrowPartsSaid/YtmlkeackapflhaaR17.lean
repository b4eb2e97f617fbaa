/- The document's answers of layer 17: what each computes. -/
import Derived.Test.YtmlkeackapflhaaHxS
import Derived.Test.YtmlkeackapflhaaP17c
import Derived.Test.YtmlkeackapflhaaHxR
namespace Go.Proofs.Ytmlkeackapflhaa
open Go Go.HX
attribute [local irreducible] Ret XRun XOps XDr XOne Does Gives
set_option maxRecDepth 4000
set_option maxHeartbeats 1000000
-- MACRO REF(x) = pt m (.cells (refC (x) (.slice (some ⟨q, 0, none⟩) len cap)) T.haycroftref17_Index (0, 0)) :: ownS T.arr_8_uint64 8 (.slice (some ⟨q, 0, none⟩) len cap) (ints .u64 (x).row.ws)
theorem stC0_R17 {goal next : Prop} (k : next) (hs : Hid next → goal := by (intro k; (first | (refine gC F.ref03_May ?_; refine p_call rfl rfl (ref03_May_spec _ h) ?_) | (refine gC F.ref17_Index_Slot ?_; refine p_call rfl rfl (ref17_Index_Slot_spec _ ?_ (h.rf2)) ?_; iterate 1 (first | assumption | omega | (simp only []; omega) | decide)) | fail); exact k.out)) : goal := hs ⟨k⟩
theorem stC1_R17 {goal next : Prop} (k : next) (hs : Hid next → goal := by (intro k; (first | (refine gBx ?_; refine p_do rfl (d_boxL rfl h (by first | (dsimp only [Value.cells]; done) | exact rfl)) ?_) | (refine gN ?_; refine p_do rfl (d_newL h (by first | (dsimp only [Value.cells]; done) | exact rfl)) ?_) | fail); exact k.out)) : goal := hs ⟨k⟩
theorem stC2_R17 {goal next : Prop} (k : next) (hs : Hid next → goal := by (intro k; (first | (refine gS ?_; (first | refine p_do rfl (d_stwL rfl rfl rfl rfl rfl (h.pick (by repeat first | exact .here | apply Has.there)) (by first | (dsimp only [Value.cells]; done) | exact rfl)) ?_ | refine p_do rfl (d_stL rfl rfl rfl (h.pick (by repeat first | exact .here | apply Has.there)) (by first | exact of_decide_eq_true rfl | simp) (by first | (dsimp only [List.set]; done) | exact rfl)) ?_)) | (refine gC F.ref03_Tag ?_; refine p_call rfl rfl (ref03_Tag_spec _ ?_ ?_ h) ?_; iterate 2 (first | assumption | omega | (simp only []; omega) | decide)) | (refine gC F.ref16_Pack ?_; refine p_call rfl rfl (ref16_Pack_spec _ ?_ ?_ h) ?_; iterate 2 (first | assumption | omega | (simp only []; omega) | decide)) | (refine gC F.ref17_Index_Try ?_; refine p_call rfl rfl (ref17_Index_Try_spec _ _ _ ?_ ?_ (h.rf2)) ?_; iterate 2 (first | assumption | omega | (simp only []; omega) | decide)) | (refine gC F.ref16_Unpack ?_; refine p_call rfl rfl (ref16_Unpack_spec _ ?_ ?_ h) ?_; iterate 2 (first | assumption | omega | (simp only []; omega) | decide)) | (refine gC F.ref03_Bucket ?_; refine p_call rfl rfl (ref03_Bucket_spec _ _ ?_ ?_ h) ?_; iterate 2 (first | assumption | omega | (simp only []; omega) | decide)) | fail); exact k.out)) : goal := hs ⟨k⟩
theorem stC3_R17 {goal next : Prop} (k : next) (hs : Hid next → goal := by (intro k; (first | (refine gC F.ref17_Index_Chain ?_; refine p_call rfl rfl (ref17_Index_Chain_spec _ ?_ (h.rf2)) ?_; iterate 1 (first | assumption | omega | (simp only []; omega) | decide)) | fail); exact k.out)) : goal := hs ⟨k⟩
theorem stD4_R17 {goal next : Prop} (k : next) (hs : Hid next → goal := by (intro k; (first | (refine gCR F.ref03_Tag ?_; refine r_call rfl rfl rfl (ref03_Tag_spec _ ?_ ?_ h) ?_; iterate 2 (first | assumption | omega | (simp only []; omega) | decide)) | fail); exact k.out)) : goal := hs ⟨k⟩
def refC (x : IdxM) (v : Value) : Array Value := #[.int .i64 x.nb, .int .i64 x.sp, v, .int .i64 x.taken, .int .i64 x.row.won, .int .i64 x.row.lost]
structure RefOk (x : IdxM) : Prop where
  ok : IdxOk x
  bnd : ∀ i, 0 ≤ x.row.ws.getD i 0 ∧ x.row.ws.getD i 0 ≤ 18446744073709551615
  tkb : 0 ≤ x.tk.ws.getD 0 0
theorem ref_lnk {x : IdxM} (hok : RefOk x) (b : Nat) : x.row.ws.getD (b * 8 + 7) 0 = (x.lnk b : Int) := by
  have := hok.bnd (b * 8 + 7)
  unfold IdxM.lnk
  omega
theorem load_getD {x : IdxM} {i : Nat} (h : i < x.row.ws.length) : x.row.load i = x.row.ws.getD i 0 := by
  rw [RowM.load, if_pos (by omega), Int.toNat_natCast]
section
variable {S : SP} {w : World} {G : List HProp}

theorem ref17_New_spec (n s : Int) (h : Sat S w G) : Ret Try.prog F.ref17_New #[.int .i64 n, .int .i64 s] w (fun v w' => (¬ (mayN n ∧ 0 ≤ s ∧ s ≤ 64) ∧ v = .tuple #[.pointer none, .int .i64 1] ∧ Sat S w' G) ∨ ((mayN n ∧ 0 ≤ s ∧ s ≤ 64) ∧ ∃ m q len cap, v = .tuple #[.pointer (some ⟨m, 0, none⟩), .int .i64 0] ∧ Sat S w' (pt m (.cells (refC (idx0 n s) (.slice (some ⟨q, 0, none⟩) len cap)) T.haycroftref17_Index (0, 0)) :: ownS T.arr_8_uint64 8 (.slice (some ⟨q, 0, none⟩) len cap) (ints .u64 (idx0 n s).row.ws) :: G))) := by
  refine ret_of is_ref17_New rfl ?_
  by_cases hn : mayN n
  · have hn1 := mayN_le hn
    by_cases hs : 0 ≤ s ∧ s ≤ 64
    · obtain ⟨t, ht⟩ := Int.eq_ofNat_of_zero_le (show 0 ≤ n + s by omega)
      repeat' (first | contradiction | refine stP ?_ | (refine stC0_R17 ?_; rintro _ w ⟨(⟨rfl, hb⟩ | ⟨rfl, hb⟩), h⟩) | (refine stC1_R17 ?_; rintro _ w ⟨bx, rfl, h⟩) | (refine p_cmp rfl rfl rfl rfl (fun hc => ?_) (fun hc => ?_) <;> simp only [cmpProp] at hc) | fail)
      rw [ht]
      refine p_mkN (n := t) (sz := 8) (kd := .u64) rfl rfl rfl (by omega) (by omega) (by omega) h (fun v w h => ?_)
      obtain ⟨va, len, cap, rfl, hl, _⟩ := ownS_slice h .here
      rw [ints_length, List.length_replicate] at hl
      obtain ⟨q, rfl⟩ := ownS_addr h .here (by omega)
      repeat' (first | refine stPs ?_ | (refine stC0_R17 ?_; rintro _ w ⟨(⟨rfl, hb⟩ | ⟨rfl, hb⟩), h⟩) | (refine stC1_R17 ?_; rintro _ w ⟨bx, rfl, h⟩) | (refine p_cmp rfl rfl rfl rfl (fun hc => ?_) (fun hc => ?_) <;> simp only [cmpProp] at hc) | fail)
      refine x_ret' is_ref17_New rfl (.inr ⟨⟨hn, hs⟩, bx, q, len, cap, rfl, ?_⟩)
      have e1 : ((n.toNat : Nat) : Int) = n := by omega
      have e2 : ((s.toNat : Nat) : Int) = s := by omega
      have e3 : ((n + s) * 8).toNat = t * 8 := by omega
      unfold refC idx0
      simp only [e1, e2, e3]
      exact h
    · repeat' (first | contradiction | refine stP ?_ | (refine stC0_R17 ?_; rintro _ w ⟨(⟨rfl, hb⟩ | ⟨rfl, hb⟩), h⟩) | (refine stC1_R17 ?_; rintro _ w ⟨bx, rfl, h⟩) | (refine p_cmp rfl rfl rfl rfl (fun hc => ?_) (fun hc => ?_) <;> simp only [cmpProp] at hc) | fail)
      all_goals exact x_ret' is_ref17_New rfl (.inl ⟨fun hx => hs hx.2, rfl, h⟩)
  · repeat' (first | contradiction | refine stP ?_ | (refine stC0_R17 ?_; rintro _ w ⟨(⟨rfl, hb⟩ | ⟨rfl, hb⟩), h⟩) | (refine stC1_R17 ?_; rintro _ w ⟨bx, rfl, h⟩) | (refine p_cmp rfl rfl rfl rfl (fun hc => ?_) (fun hc => ?_) <;> simp only [cmpProp] at hc) | fail)
    all_goals exact x_ret' is_ref17_New rfl (.inl ⟨fun hx => hn hx.1, rfl, h⟩)

set_option maxHeartbeats 4000000 in
theorem ref17_Index_Chain_spec {m q len cap : Nat} {x : IdxM} (k : Int) (hok : RefOk x) (h : Sat S w (pt m (.cells (refC (x) (.slice (some ⟨q, 0, none⟩) len cap)) T.haycroftref17_Index (0, 0)) :: ownS T.arr_8_uint64 8 (.slice (some ⟨q, 0, none⟩) len cap) (ints .u64 (x).row.ws) :: G)) : Ret Try.prog F.ref17_Index_Chain #[.pointer (some ⟨m, 0, none⟩), .int .i64 k] w (fun v w' => Sat S w' (ownS T.int 1 v (ints .i64 (natsZ (x.chainZ k))) :: pt m (.cells (refC (x) (.slice (some ⟨q, 0, none⟩) len cap)) T.haycroftref17_Index (0, 0)) :: ownS T.arr_8_uint64 8 (.slice (some ⟨q, 0, none⟩) len cap) (ints .u64 (x).row.ws) :: G)) := by
  refine ret_of is_ref17_Index_Chain rfl ?_
  have hs := idx_small hok.ok
  have hl8 := hok.ok.len
  have hll := (ownS_rd h (.there .here)).len.1
  rw [ints_length] at hll
  have hlen : len = x.all := by omega
  have hlc := (ownS_rd h (.there .here)).len.2
  by_cases hq : 0 ≤ k ∧ k < x.all
  · have hch : x.chainZ k = x.chain k.toNat := by
      unfold IdxM.chainZ
      rw [if_pos hq]
    obtain ⟨kb, rfl⟩ := Int.eq_ofNat_of_zero_le hq.1
    rw [Int.toNat_natCast] at hch
    have hch0 : x.chain kb = [kb] ++ (if x.lnk kb = 0 then [] else chainG x.lnk x.all (x.lnk kb - 1)) := by unfold IdxM.chain; simp only [chainG]; rfl
    repeat' (first | (refine p_lit [] rfl rfl rfl rfl rfl rfl h (fun v w h => ?_)) | refine stP ?_ | (refine p_cmp rfl rfl rfl rfl (fun hc => ?_) (fun hc => ?_) <;> simp only [cmpProp] at hc) | fail)
    refine p_lit [.int .i64 (kb : Int)] rfl rfl rfl rfl rfl rfl h (fun v2 w h => ?_)
    refine p_app rfl rfl rfl rfl (by decide) (h.pick (.there (by repeat first | exact .here | apply Has.there))) (ownS_rd h .here) (by simp [Value.oneCell']) (by simp) (by simp) (fun v3 w h => ?_)
    repeat' (first | refine stPs ?_ | (refine p_cmp rfl rfl rfl rfl (fun hc => ?_) (fun hc => ?_) <;> simp only [cmpProp] at hc) | fail)
    refine x_keep [0, 1, 5] rfl ?_
    refine x_loop_inv (fun lm le w => ∃ (f : Nat), ∃ (bk : Nat), ∃ (v : Value), ∃ (acc : List Nat), lm = f + f ∧ acc.length + f = x.all + 1 ∧ bk < x.all ∧ x.chain kb = acc ++ (if x.lnk bk = 0 then [] else chainG x.lnk f (x.lnk bk - 1)) ∧ le = [(0, .pointer (some ⟨m, 0, none⟩)), (1, .int .i64 bk), (5, v)] ∧ Sat S w (ownS T.int 1 v (ints .i64 (natsZ acc)) :: pt m (.cells (refC (x) (.slice (some ⟨q, 0, none⟩) len cap)) T.haycroftref17_Index (0, 0)) :: ownS T.arr_8_uint64 8 (.slice (some ⟨q, 0, none⟩) len cap) (ints .u64 (x).row.ws) :: G)) (x.all + x.all) ⟨x.all, kb, v3, [kb], rfl, Nat.add_comm 1 x.all, by omega, hch0, rfl, h.pm3⟩ ?_
    clear h
    rintro lm le w ⟨f, bk, v, acc, rfl, hi0, hi1, hi2, rfl, h⟩ ih
    obtain ⟨va, vl, vc, rfl, hvl, _⟩ := ownS_slice h .here
    rw [ints_length, natsZ_length, Nat.mul_one] at hvl
    have hlk := hok.ok.link bk hi1
    by_cases hz : x.lnk bk = 0
    · repeat' (first | (refine gL ?_; refine p_val rfl (g_ldN (i := bk * 8 + 7) rfl (ownS_rd h (.there (.there .here))) (by omega) (by omega)) ?_; rw [ref_lnk hok]) | refine stP ?_ | (refine p_cmp rfl rfl rfl rfl (fun hc => ?_) (fun hc => ?_) <;> simp only [cmpProp] at hc) | fail)
      refine x_ret' is_ref17_Index_Chain rfl ?_
      rw [hch, hi2, if_pos hz, List.append_nil]
      exact h
    · rcases f with _ | f
      · repeat' (first | (refine gL ?_; refine p_val rfl (g_ldN (i := bk * 8 + 7) rfl (ownS_rd h (.there (.there .here))) (by omega) (by omega)) ?_; rw [ref_lnk hok]) | refine stP ?_ | (refine p_cmp rfl rfl rfl rfl (fun hc => ?_) (fun hc => ?_) <;> simp only [cmpProp] at hc) | fail)
        refine x_ret' is_ref17_Index_Chain rfl ?_
        rw [hch, hi2]
        simp only [chainG, ite_self, List.append_nil]
        exact h
      · have e1 : (x.lnk bk : Int) - 1 = ((x.lnk bk - 1 : Nat) : Int) := by omega
        repeat' (first | (refine gL ?_; refine p_val rfl (g_ldN (i := bk * 8 + 7) rfl (ownS_rd h (.there (.there .here))) (by omega) (by omega)) ?_; rw [ref_lnk hok]) | refine stP ?_ | (refine p_cmp rfl rfl rfl rfl (fun hc => ?_) (fun hc => ?_) <;> simp only [cmpProp] at hc) | fail)
        refine p_lit [.int .i64 ((x.lnk bk : Int) - 1)] rfl rfl rfl rfl rfl rfl h (fun v2 w h => ?_)
        refine p_app rfl rfl rfl rfl (by decide) (h.pick (.there .here)) (ownS_rd h .here) (by simp [Value.oneCell']) (by rw [ints_length, natsZ_length]; simp; omega) (by rw [ints_length, natsZ_length]; simp; omega) (fun v3 w h => ?_)
        repeat' (first | refine stPs ?_ | (refine p_cmp rfl rfl rfl rfl (fun hc => ?_) (fun hc => ?_) <;> simp only [cmpProp] at hc) | fail)
        have e2 : ints .i64 (natsZ acc) ++ [.int .i64 ((x.lnk bk : Int) - 1)] = ints .i64 (natsZ (acc ++ [x.lnk bk - 1])) := by rw [e1]; simp [ints, natsZ]
        rw [e2] at h
        rw [e1]
        refine x_keep [0, 1, 5] rfl (ih _ _ _ (by omega) ⟨f, x.lnk bk - 1, v3, acc ++ [x.lnk bk - 1], rfl, by simp; omega, by omega, ?_, rfl, h.pm3⟩)
        rw [hi2, if_neg hz]
        simp only [chainG]
        simp
  · have hch : x.chainZ k = [] := by
      unfold IdxM.chainZ
      rw [if_neg hq]
    rw [hch]
    repeat' (first | (refine p_lit [] rfl rfl rfl rfl rfl rfl h (fun v w h => ?_)) | refine stP ?_ | (refine p_cmp rfl rfl rfl rfl (fun hc => ?_) (fun hc => ?_) <;> simp only [cmpProp] at hc) | fail)
    all_goals first | (exfalso; omega) | exact x_ret' is_ref17_Index_Chain rfl h

theorem ref17_Index_Slot_spec {m q len cap : Nat} {x : IdxM} (s : Int) (s1 : s ≤ 9223372036854775807) (h : Sat S w (pt m (.cells (refC (x) (.slice (some ⟨q, 0, none⟩) len cap)) T.haycroftref17_Index (0, 0)) :: ownS T.arr_8_uint64 8 (.slice (some ⟨q, 0, none⟩) len cap) (ints .u64 (x).row.ws) :: G)) :
    Ret Try.prog F.ref17_Index_Slot #[.pointer (some ⟨m, 0, none⟩), .int .i64 s] w (fun v w' => BoolIs v (slotP x s) ∧ Sat S w' (pt m (.cells (refC (x) (.slice (some ⟨q, 0, none⟩) len cap)) T.haycroftref17_Index (0, 0)) :: ownS T.arr_8_uint64 8 (.slice (some ⟨q, 0, none⟩) len cap) (ints .u64 (x).row.ws) :: G)) := by
  have hll := (ownS_rd h (.there .here)).len.1
  rw [ints_length] at hll
  refine ret_of is_ref17_Index_Slot rfl ?_
  repeat' (first | refine stPs ?_ | (refine p_cmp rfl rfl rfl rfl (fun hc => ?_) (fun hc => ?_) <;> simp only [cmpProp] at hc) | fail)
  all_goals refine x_ret' is_ref17_Index_Slot rfl ⟨?_, h⟩
  all_goals unfold slotP
  all_goals first | exact .t (by omega) | exact .f (by omega)

theorem ref17_Index_Try_spec {m q len cap : Nat} {x : IdxM} (i : Nat) (o n : Int) (hok : RefOk x) (hi : i < x.row.ws.length) (h : Sat S w (pt m (.cells (refC (x) (.slice (some ⟨q, 0, none⟩) len cap)) T.haycroftref17_Index (0, 0)) :: ownS T.arr_8_uint64 8 (.slice (some ⟨q, 0, none⟩) len cap) (ints .u64 (x).row.ws) :: G)) :
    Ret Try.prog F.ref17_Index_Try #[.pointer (some ⟨m, 0, none⟩), .int .i64 i, .int .u64 o, .int .u64 n] w (fun v w' => v = .bool (tryX x i o n).1.1 ∧ Sat S w' (pt m (.cells (refC ((tryX x i o n).2) (.slice (some ⟨q, 0, none⟩) len cap)) T.haycroftref17_Index (0, 0)) :: ownS T.arr_8_uint64 8 (.slice (some ⟨q, 0, none⟩) len cap) (ints .u64 ((tryX x i o n).2).row.ws) :: G)) := by
  have hll := (ownS_rd h (.there .here)).len.1
  rw [ints_length] at hll
  have ht : x.row.there i := ⟨by omega, by omega⟩
  have hl8 := hok.ok.len
  have hsm := idx_small hok.ok
  refine ret_of is_ref17_Index_Try rfl ?_
  by_cases ho : x.row.ws.getD i 0 = o
  · have e : tryX x i o n = ((true, 0), { x with row := ⟨x.row.ws.set i n, IntKind.i64.wrap (x.row.won + 1), x.row.lost⟩ }) := by
      unfold tryX RowM.cas RowM.may
      rw [Int.toNat_natCast, if_pos ho, if_pos ht, if_pos (show 0 ≤ (i : Int) ∧ (i : Int) < x.row.ws.length from ht), decide_eq_true ⟨ht, ho⟩]
    rw [e]
    repeat' (first | (refine gL ?_; refine p_val rfl (g_ldN (i := i) rfl (ownS_rd h (.there .here)) (by omega) (by omega)) ?_) | (refine gB .add ?_; refine p_val rfl (g_addW_i rfl rfl) ?_) | (refine gS ?_; refine p_do rfl (d_stN (i := i) rfl rfl (h.pick (.there .here)) (by omega) (by omega) (by omega)) ?_; rintro _ w ⟨rfl, h⟩) | refine stP ?_ | (refine stC2_R17 ?_; rintro _ w ⟨rfl, h⟩) | (refine p_cmp rfl rfl rfl rfl (fun hc => ?_) (fun hc => ?_) <;> simp only [cmpProp] at hc) | fail)
    exact x_ret' is_ref17_Index_Try rfl ⟨rfl, h.pm⟩
  · have e : tryX x i o n = ((false, 0), { x with row := ⟨x.row.ws, x.row.won, IntKind.i64.wrap (x.row.lost + 1)⟩ }) := by
      unfold tryX RowM.cas RowM.may
      rw [Int.toNat_natCast, if_neg ho, if_pos ht, if_pos (show 0 ≤ (i : Int) ∧ (i : Int) < x.row.ws.length from ht), decide_eq_false (fun hx => ho hx.2)]
    rw [e]
    repeat' (first | (refine gL ?_; refine p_val rfl (g_ldN (i := i) rfl (ownS_rd h (.there .here)) (by omega) (by omega)) ?_) | (refine gB .add ?_; refine p_val rfl (g_addW_i rfl rfl) ?_) | refine stP ?_ | (refine stC2_R17 ?_; rintro _ w ⟨rfl, h⟩) | (refine p_cmp rfl rfl rfl rfl (fun hc => ?_) (fun hc => ?_) <;> simp only [cmpProp] at hc) | fail)
    exact x_ret' is_ref17_Index_Try rfl ⟨rfl, h.pm⟩

theorem ref17_Index_Claim_spec {m q len cap : Nat} {x : IdxM} (s y : Int) (hok : RefOk x) (s1 : s ≤ 9223372036854775807) (y0 : 0 ≤ y) (y1 : y ≤ 18446744073709551615) (h : Sat S w (pt m (.cells (refC (x) (.slice (some ⟨q, 0, none⟩) len cap)) T.haycroftref17_Index (0, 0)) :: ownS T.arr_8_uint64 8 (.slice (some ⟨q, 0, none⟩) len cap) (ints .u64 (x).row.ws) :: G)) :
    Ret Try.prog F.ref17_Index_Claim #[.pointer (some ⟨m, 0, none⟩), .int .i64 s, .int .u64 y] w (fun v w' => v = .tuple #[.bool (claimX x s y).1.1, .int .i64 (claimX x s y).1.2] ∧ Sat S w' (pt m (.cells (refC ((claimX x s y).2) (.slice (some ⟨q, 0, none⟩) len cap)) T.haycroftref17_Index (0, 0)) :: ownS T.arr_8_uint64 8 (.slice (some ⟨q, 0, none⟩) len cap) (ints .u64 ((claimX x s y).2).row.ws) :: G)) := by
  have ht0 : 0 ≤ y / 1125899906842624 := Int.ediv_nonneg y0 (by decide)
  have hpb := packE_bnd ⟨0, y / 1125899906842624, true⟩ (by simp) (by simpa using ht0)
  obtain ⟨hp0, hp1⟩ := hpb
  refine ret_of is_ref17_Index_Claim rfl ?_
  by_cases hs : slotP x s
  · rw [claimX, if_pos hs]
    obtain ⟨i, rfl⟩ := Int.eq_ofNat_of_zero_le hs.1
    have hi : i < x.row.ws.length := by have := hs.2.1; omega
    have ht : x.row.may i = 0 := by rw [RowM.may, if_pos ⟨by omega, by omega⟩]
    repeat' (first | refine stPs ?_ | fail)
    refine p_call rfl rfl (ref17_Index_Slot_spec _ s1 h) ?_
    rintro _ w ⟨(⟨rfl, hb⟩ | ⟨rfl, hb⟩), h⟩
    rotate_left
    · exact absurd hs hb
    repeat' (first | (refine gC F.ref16_Pack ?_; refine p_call rfl rfl (ref16_Pack_spec ⟨0, y / 1125899906842624, true⟩ (by simp) ht0 h) ?_; rintro _ w ⟨rfl, h⟩) | refine stP ?_ | (refine stC0_R17 ?_; rintro _ w ⟨(⟨rfl, hb⟩ | ⟨rfl, hb⟩), h⟩) | (refine stC2_R17 ?_; rintro _ w ⟨rfl, h⟩) | fail)
    refine x_ret' is_ref17_Index_Claim rfl ⟨?_, h.pm⟩
    show Value.tuple #[_, .int .i64 0] = Value.tuple #[_, .int .i64 (x.row.may i)]
    rw [ht]
    rfl
  · rw [claimX, if_neg hs]
    repeat' (first | refine stPs ?_ | fail)
    refine p_call rfl rfl (ref17_Index_Slot_spec _ s1 h) ?_
    rintro _ w ⟨(⟨rfl, hb⟩ | ⟨rfl, hb⟩), h⟩
    · exact absurd hb hs
    repeat' (first | refine stPs ?_ | (refine stC0_R17 ?_; rintro _ w ⟨(⟨rfl, hb⟩ | ⟨rfl, hb⟩), h⟩) | (refine stC2_R17 ?_; rintro _ w ⟨rfl, h⟩) | fail)
    exact x_ret' is_ref17_Index_Claim rfl ⟨rfl, h⟩

theorem ref17_Index_Turn_spec {m q len cap : Nat} {x : IdxM} (s o a : Int) (hok : RefOk x) (s1 : s ≤ 9223372036854775807) (o0 : 0 ≤ o) (o1 : o ≤ 18446744073709551615) (a0 : 0 ≤ a) (h : Sat S w (pt m (.cells (refC (x) (.slice (some ⟨q, 0, none⟩) len cap)) T.haycroftref17_Index (0, 0)) :: ownS T.arr_8_uint64 8 (.slice (some ⟨q, 0, none⟩) len cap) (ints .u64 (x).row.ws) :: G)) :
    Ret Try.prog F.ref17_Index_Turn #[.pointer (some ⟨m, 0, none⟩), .int .i64 s, .int .u64 o, .int .u64 a] w (fun v w' => v = .tuple #[.bool (turnX x s o a).1.1, .int .i64 (turnX x s o a).1.2] ∧ Sat S w' (pt m (.cells (refC ((turnX x s o a).2) (.slice (some ⟨q, 0, none⟩) len cap)) T.haycroftref17_Index (0, 0)) :: ownS T.arr_8_uint64 8 (.slice (some ⟨q, 0, none⟩) len cap) (ints .u64 ((turnX x s o a).2).row.ws) :: G)) := by
  have hub := unpack_bounds o0
  have hpb := packE_bnd ⟨a, (unpackE o).1.tag, false⟩ a0 hub.2.2.1
  obtain ⟨hp0, hp1⟩ := hpb
  refine ret_of is_ref17_Index_Turn rfl ?_
  by_cases hs : slotP x s
  · rw [turnX, if_pos hs]
    obtain ⟨i, rfl⟩ := Int.eq_ofNat_of_zero_le hs.1
    have hi : i < x.row.ws.length := by have := hs.2.1; omega
    have ht : x.row.may i = 0 := by rw [RowM.may, if_pos ⟨by omega, by omega⟩]
    repeat' (first | refine stPs ?_ | (refine p_cmp rfl rfl rfl rfl (fun hc => ?_) (fun hc => ?_) <;> simp only [cmpProp] at hc) | fail)
    refine p_call rfl rfl (ref17_Index_Slot_spec _ s1 h) ?_
    rintro _ w ⟨(⟨rfl, hb⟩ | ⟨rfl, hb⟩), h⟩
    rotate_left
    · exact absurd hs hb
    by_cases hu : (unpackE o).2 = 0
    · have hto : toE o a = packE ⟨a, (unpackE o).1.tag, false⟩ := by rw [toE, if_pos hu]
      rw [hto]
      by_cases he : (packE ⟨a, (unpackE o).1.tag, false⟩).2 = 0
      · rw [if_pos he]
        repeat' (first | (refine gC F.ref16_Pack ?_; refine p_call rfl rfl (ref16_Pack_spec ⟨a, (unpackE o).1.tag, false⟩ a0 hub.2.2.1 h) ?_; rintro _ w ⟨rfl, h⟩) | refine stP ?_ | (refine stC0_R17 ?_; rintro _ w ⟨(⟨rfl, hb⟩ | ⟨rfl, hb⟩), h⟩) | (refine stC2_R17 ?_; rintro _ w ⟨rfl, h⟩) | (refine stC1_R17 ?_; rintro _ w ⟨bx, rfl, h⟩) | (refine p_cmp rfl rfl rfl rfl (fun hc => ?_) (fun hc => ?_) <;> simp only [cmpProp] at hc) | fail)
        refine x_ret' is_ref17_Index_Turn rfl ⟨?_, h.pm⟩
        show Value.tuple #[_, .int .i64 0] = Value.tuple #[_, .int .i64 (x.row.may i)]
        rw [ht]
      · rw [if_neg he]
        repeat' (first | (refine gC F.ref16_Pack ?_; refine p_call rfl rfl (ref16_Pack_spec ⟨a, (unpackE o).1.tag, false⟩ a0 hub.2.2.1 h) ?_; rintro _ w ⟨rfl, h⟩) | refine stP ?_ | (refine stC0_R17 ?_; rintro _ w ⟨(⟨rfl, hb⟩ | ⟨rfl, hb⟩), h⟩) | (refine stC2_R17 ?_; rintro _ w ⟨rfl, h⟩) | (refine stC1_R17 ?_; rintro _ w ⟨bx, rfl, h⟩) | (refine p_cmp rfl rfl rfl rfl (fun hc => ?_) (fun hc => ?_) <;> simp only [cmpProp] at hc) | fail)
        exact x_ret' is_ref17_Index_Turn rfl ⟨rfl, h.pm⟩
    · have hto : toE o a = (0, (unpackE o).2) := by rw [toE, if_neg hu]
      rw [hto, if_neg (by simpa using hu)]
      repeat' (first | refine stPs ?_ | (refine stC0_R17 ?_; rintro _ w ⟨(⟨rfl, hb⟩ | ⟨rfl, hb⟩), h⟩) | (refine stC2_R17 ?_; rintro _ w ⟨rfl, h⟩) | (refine stC1_R17 ?_; rintro _ w ⟨bx, rfl, h⟩) | (refine p_cmp rfl rfl rfl rfl (fun hc => ?_) (fun hc => ?_) <;> simp only [cmpProp] at hc) | fail)
      exact x_ret' is_ref17_Index_Turn rfl ⟨rfl, h.pm⟩
  · rw [turnX, if_neg hs]
    repeat' (first | refine stPs ?_ | (refine p_cmp rfl rfl rfl rfl (fun hc => ?_) (fun hc => ?_) <;> simp only [cmpProp] at hc) | fail)
    refine p_call rfl rfl (ref17_Index_Slot_spec _ s1 h) ?_
    rintro _ w ⟨(⟨rfl, hb⟩ | ⟨rfl, hb⟩), h⟩
    · exact absurd hb hs
    repeat' (first | refine stPs ?_ | (refine stC0_R17 ?_; rintro _ w ⟨(⟨rfl, hb⟩ | ⟨rfl, hb⟩), h⟩) | (refine stC2_R17 ?_; rintro _ w ⟨rfl, h⟩) | (refine stC1_R17 ?_; rintro _ w ⟨bx, rfl, h⟩) | (refine p_cmp rfl rfl rfl rfl (fun hc => ?_) (fun hc => ?_) <;> simp only [cmpProp] at hc) | fail)
    exact x_ret' is_ref17_Index_Turn rfl ⟨rfl, h⟩

theorem ref17_Index_Spare_spec {m q len cap : Nat} {x : IdxM} (hok : RefOk x) (h : Sat S w (pt m (.cells (refC (x) (.slice (some ⟨q, 0, none⟩) len cap)) T.haycroftref17_Index (0, 0)) :: ownS T.arr_8_uint64 8 (.slice (some ⟨q, 0, none⟩) len cap) (ints .u64 (x).row.ws) :: G)) :
    Ret Try.prog F.ref17_Index_Spare #[.pointer (some ⟨m, 0, none⟩)] w (fun v w' => v = .tuple #[.int .i64 (spareX x).1.1, .int .i64 (spareX x).1.2] ∧ Sat S w' (pt m (.cells (refC ((spareX x).2) (.slice (some ⟨q, 0, none⟩) len cap)) T.haycroftref17_Index (0, 0)) :: ownS T.arr_8_uint64 8 (.slice (some ⟨q, 0, none⟩) len cap) (ints .u64 ((spareX x).2).row.ws) :: G)) := by
  have hs := idx_small hok.ok
  have hsp := hok.ok.sp
  have htk := hok.ok.tk
  have hadd : ∀ r : RowM, r.ws.length = 1 → ((r.ws.getD 0 0).toNat : Int) + 1 ≤ 100 → 0 ≤ r.ws.getD 0 0 → (((r.add 0 1).ws.getD 0 0).toNat : Int) = ((r.ws.getD 0 0).toNat : Int) + 1 := fun r hr h1 h0 => by
    unfold RowM.add
    rw [if_pos ⟨by omega, by omega⟩]
    simp only [Int.toNat_zero]
    rw [List.getD_eq_getElem?_getD, List.getElem?_set_self (by omega)]
    simp only [Option.getD_some]
    omega
  refine ret_of is_ref17_Index_Spare rfl ?_
  by_cases hf : x.sp ≤ x.taken
  · rw [spareX, if_pos hf]
    repeat' (first | refine stPs ?_ | (refine stC2_R17 ?_; rintro _ w ⟨rfl, h⟩) | (refine p_cmp rfl rfl rfl rfl (fun hc => ?_) (fun hc => ?_) <;> simp only [cmpProp] at hc) | (refine r_cmp rfl rfl rfl rfl rfl (fun hc => ?_) (fun hc => ?_) <;> simp only [cmpProp] at hc) | (refine x_drawn rfl ?_; have h := h.drew) | refine x_drawn rfl ?_ | fail)
    exact x_ret' is_ref17_Index_Spare rfl ⟨rfl, h⟩
  · rw [spareX, if_neg hf]
    have e := hadd x.tk hok.ok.tlen (by unfold IdxM.taken at htk hf; omega) hok.tkb
    have e2 : ((IdxM.taken { x with tk := x.tk.add 0 1 } : Nat) : Int) = x.taken + 1 := e
    repeat' (first | refine stPs ?_ | (refine stC2_R17 ?_; rintro _ w ⟨rfl, h⟩) | (refine p_cmp rfl rfl rfl rfl (fun hc => ?_) (fun hc => ?_) <;> simp only [cmpProp] at hc) | (refine r_cmp rfl rfl rfl rfl rfl (fun hc => ?_) (fun hc => ?_) <;> simp only [cmpProp] at hc) | (refine x_drawn rfl ?_; have h := h.drew) | refine x_drawn rfl ?_ | fail)
    have e3 : (x.nb : Int) + ((x.taken : Int) + 1) - 1 = x.nb + x.taken := by omega
    rw [e3]
    refine x_ret' is_ref17_Index_Spare rfl ⟨rfl, ?_⟩
    unfold refC
    rw [e2]
    exact h

/-- The first that is so; -1: none is. -/
def firstZ (p : Int → Bool) (l : List Int) : Int := (l.find? p).getD (-1)
theorem findZ_first {p : Int → Bool} {l : List Int} (h0 : ∀ z ∈ l, 0 ≤ z) : (0 ≤ findZ p l ↔ 0 ≤ firstZ p l) ∧ (0 ≤ findZ p l → l.getD (findZ p l).toNat 0 = firstZ p l) := by
  unfold findZ firstZ
  cases hf : l.findIdx? p with
  | none =>
    have : l.find? p = none := by
      rw [List.find?_eq_none]
      intro z hz
      rw [List.findIdx?_eq_none_iff] at hf
      simp [hf z hz]
    simp [this]
  | some i =>
    rw [List.findIdx?_eq_some_iff_getElem] at hf
    obtain ⟨hi, hp, hn⟩ := hf
    have : l.find? p = some l[i] := by
      rw [List.find?_eq_some_iff_getElem]
      exact ⟨hp, i, hi, rfl, fun j hj => by simpa using hn j hj⟩
    have h1 := h0 l[i] (List.getElem_mem hi)
    simp only [this, Option.getD_some, Int.toNat_natCast]
    refine ⟨⟨fun _ => h1, fun _ => by omega⟩, fun _ => ?_⟩
    rw [List.getD_eq_getElem?_getD, List.getElem?_eq_getElem hi]
    rfl
theorem firstZ_step {p : Int → Bool} {l : List Int} {n : Nat} {z : Int} (h : l[n]? = some z) (hl : ∀ z ∈ l, 0 ≤ z) : firstZ p (l.take (n + 1)) = if firstZ p (l.take n) < 0 ∧ p z = true then z else firstZ p (l.take n) := by
  unfold firstZ
  rw [take_next h, List.find?_append]
  cases hf : (l.take n).find? p with
  | none =>
    simp only [Option.none_or, Option.getD_none]
    cases hp : p z <;> simp [hp]
  | some u =>
    have := hl u (List.mem_of_mem_take (List.mem_of_find?_eq_some hf))
    simp
    omega
theorem slots_get : ∀ {C : List Nat} {i b k : Nat}, C[i]? = some b → k < 7 → (slotsG C)[i * 7 + k]? = some (b * 8 + k)
  | [], _, _, _, h, _ => by simp at h
  | c :: C, 0, b, k, h, hk => by
    simp at h
    subst h
    unfold slotsG
    rw [List.flatMap_cons, List.getElem?_append_left (by simp; omega)]
    simp [hk]
  | c :: C, i + 1, b, k, h, hk => by
    have := slots_get (C := C) (i := i) (by simpa using h) hk
    unfold slotsG at this ⊢
    rw [List.flatMap_cons, List.getElem?_append_right (by simp; omega)]
    simp only [List.length_map, List.length_range]
    rw [show (i + 1) * 7 + k - 7 = i * 7 + k by omega]
    exact this

set_option maxHeartbeats 8000000 in
theorem ref17_Index_Look_spec {m q len cap : Nat} {x : IdxM} (y : Int) (hok : RefOk x) (y0 : 0 ≤ y) (y1 : y ≤ 18446744073709551615) (h : Sat S w (pt m (.cells (refC (x) (.slice (some ⟨q, 0, none⟩) len cap)) T.haycroftref17_Index (0, 0)) :: ownS T.arr_8_uint64 8 (.slice (some ⟨q, 0, none⟩) len cap) (ints .u64 (x).row.ws) :: G)) :
    Ret Try.prog F.ref17_Index_Look #[.pointer (some ⟨m, 0, none⟩), .int .u64 y] w (fun v w' => v = .agg (lookC (lookV x y)).toArray ∧ Sat S w' (pt m (.cells (refC (x) (.slice (some ⟨q, 0, none⟩) len cap)) T.haycroftref17_Index (0, 0)) :: ownS T.arr_8_uint64 8 (.slice (some ⟨q, 0, none⟩) len cap) (ints .u64 (x).row.ws) :: G)) := by
  refine ret_of is_ref17_Index_Look rfl ?_
  have hs := idx_small hok.ok
  have hbk := bucket_lt (h := y) hok.ok.may
  have hl8 := hok.ok.len
  have hll := (ownS_rd h (.there .here)).len.1
  rw [ints_length] at hll
  have hch : x.chainZ (bucketZ y x.nb) = x.home y := by unfold IdxM.chainZ IdxM.home; rw [if_pos (by omega)]
  have hhl := chainG_length x.lnk (x.all + 1) (bucketZ y x.nb).toNat
  have hhe : 1 ≤ (x.home y).length := chain_ne
  have hha : ∀ k ∈ x.home y, k < x.all := chainG_all hok.ok.link _ _ (by omega)
  have hhl : (x.home y).length ≤ x.all + 1 := hhl
  have hlh : (x.homes y).length = (x.home y).length * 7 := by unfold IdxM.homes; rw [natsZ_length, slotsG_length]
  have hh0 : ∀ z ∈ x.homes y, 0 ≤ z := fun z hz => by
    unfold IdxM.homes natsZ at hz
    obtain ⟨n, _, rfl⟩ := List.mem_map.1 hz
    omega
  repeat' (first | refine stPs ?_ | (refine stC2_R17 ?_; rintro _ w ⟨rfl, h⟩) | (refine stC3_R17 ?_; rintro v w h) | (refine stC1_R17 ?_; rintro _ w ⟨bx, rfl, h⟩) | (refine stD4_R17 ?_; rintro _ w ⟨rfl, h⟩ <;> refine nowa ?_) | (refine p_cmp rfl rfl rfl rfl (fun hc => ?_) (fun hc => ?_) <;> simp only [cmpProp] at hc) | (refine r_cmp rfl rfl rfl rfl rfl (fun hc => ?_) (fun hc => ?_) <;> simp only [cmpProp] at hc) | (refine x_drawn rfl ?_; have h := h.drew) | refine x_drawn rfl ?_ | fail)
  rw [hch] at h
  obtain ⟨va, vl, vc, rfl, hvl, _⟩ := ownS_slice h .here
  rw [ints_length, natsZ_length, Nat.mul_one] at hvl
  obtain ⟨pa, rfl⟩ := ownS_addr h .here (by omega)
  have hlast : (natsZ (x.home y)).getD (vl - 1) 0 = x.last y := by rw [← hvl]; rfl
  repeat' (first | (refine gL ?_; refine p_val rfl (g_ldI (i := vl - 1) rfl (ownS_rd h .here) (by omega) (by rw [natsZ_length]; omega)) ?_; rw [hlast]) | refine stP ?_ | (refine stC2_R17 ?_; rintro _ w ⟨rfl, h⟩) | (refine stC3_R17 ?_; rintro v w h) | (refine stC1_R17 ?_; rintro _ w ⟨bx, rfl, h⟩) | (refine stD4_R17 ?_; rintro _ w ⟨rfl, h⟩ <;> refine nowa ?_) | (refine p_cmp rfl rfl rfl rfl (fun hc => ?_) (fun hc => ?_) <;> simp only [cmpProp] at hc) | (refine r_cmp rfl rfl rfl rfl rfl (fun hc => ?_) (fun hc => ?_) <;> simp only [cmpProp] at hc) | (refine x_drawn rfl ?_; have h := h.drew) | refine x_drawn rfl ?_ | fail)
  refine x_keep [0, 1, 4, 5, 6, 7, 8] rfl ?_
  refine x_loop_inv (fun lm le w => ∃ (i : Nat), ∃ (fr : Int), lm = vl - i ∧ i ≤ vl ∧ fr = firstZ (fun s => decide (x.row.load s = 0)) ((x.homes y).take (i * 7)) ∧ (∀ (j : Nat) (z : Int), j < i * 7 → (x.homes y)[j]? = some z → hasE (x.row.load z) (tagZ y) = false) ∧ le = [(0, .pointer (some ⟨m, 0, none⟩)), (1, .int .u64 y), (4, .pointer (some ⟨bx, 0, none⟩)), (5, .slice (some ⟨pa, 0, none⟩) vl vc), (6, .int .i64 (x.last y)), (7, .int .i64 fr), (8, .int .i64 i)] ∧ Sat S w (ownS T.int 1 (.slice (some ⟨pa, 0, none⟩) vl vc) (ints .i64 (natsZ (x.home y))) :: pt m (.cells (refC (x) (.slice (some ⟨q, 0, none⟩) len cap)) T.haycroftref17_Index (0, 0)) :: ownS T.arr_8_uint64 8 (.slice (some ⟨q, 0, none⟩) len cap) (ints .u64 (x).row.ws) :: pt bx (.cells (lookC ⟨0, 0, 0, 0⟩).toArray T.api_Look (0, 0)) :: G)) (vl) ⟨0, -1, rfl, by omega, rfl, (fun j z hj => by omega), rfl, h.pm⟩ ?_
  clear h
  rintro lm le w ⟨i, fr, rfl, hi0, hi1, hi2, rfl, h⟩ ih
  by_cases hi : i < vl
  · obtain ⟨b, hb⟩ := has_elem (show i < (x.home y).length by omega)
    have hba := hha b (List.mem_of_getElem? hb)
    have hgb : (natsZ (x.home y)).getD i 0 = b := by unfold natsZ; rw [List.getD_eq_getElem?_getD, List.getElem?_map, hb]; rfl
    repeat' (first | refine stPs ?_ | (refine stC2_R17 ?_; rintro _ w ⟨rfl, h⟩) | (refine stC3_R17 ?_; rintro v w h) | (refine stC1_R17 ?_; rintro _ w ⟨bx, rfl, h⟩) | (refine stD4_R17 ?_; rintro _ w ⟨rfl, h⟩ <;> refine nowa ?_) | (refine p_cmp rfl rfl rfl rfl (fun hc => ?_) (fun hc => ?_) <;> simp only [cmpProp] at hc) | (refine r_cmp rfl rfl rfl rfl rfl (fun hc => ?_) (fun hc => ?_) <;> simp only [cmpProp] at hc) | (refine x_drawn rfl ?_; have h := h.drew) | refine x_drawn rfl ?_ | fail)
    refine x_keep [0, 1, 4, 5, 6, 7, 8, 9] rfl ?_
    refine x_loop_inv (fun lm le w => ∃ (k : Nat), ∃ (fr : Int), lm = 7 - k ∧ k ≤ 7 ∧ fr = firstZ (fun s => decide (x.row.load s = 0)) ((x.homes y).take (i * 7 + k)) ∧ (∀ (j : Nat) (z : Int), j < i * 7 + k → (x.homes y)[j]? = some z → hasE (x.row.load z) (tagZ y) = false) ∧ le = [(0, .pointer (some ⟨m, 0, none⟩)), (1, .int .u64 y), (4, .pointer (some ⟨bx, 0, none⟩)), (5, .slice (some ⟨pa, 0, none⟩) vl vc), (6, .int .i64 (x.last y)), (7, .int .i64 fr), (8, .int .i64 i), (9, .int .i64 k)] ∧ Sat S w (ownS T.int 1 (.slice (some ⟨pa, 0, none⟩) vl vc) (ints .i64 (natsZ (x.home y))) :: pt m (.cells (refC (x) (.slice (some ⟨q, 0, none⟩) len cap)) T.haycroftref17_Index (0, 0)) :: ownS T.arr_8_uint64 8 (.slice (some ⟨q, 0, none⟩) len cap) (ints .u64 (x).row.ws) :: pt bx (.cells (lookC ⟨0, 0, 0, 0⟩).toArray T.api_Look (0, 0)) :: G)) (7) ⟨0, fr, rfl, by omega, hi1, hi2, rfl, h⟩ ?_
    clear h
    rintro lm le w ⟨k, fr, rfl, hi0, hi1, hi2, rfl, h⟩ ih2
    by_cases hk : k < 7
    · have hz : (x.homes y)[i * 7 + k]? = some ((b * 8 + k : Nat) : Int) := by
        unfold IdxM.homes natsZ
        rw [List.getElem?_map, slots_get hb hk]
        rfl
      have hlt : b * 8 + k < x.row.ws.length := by omega
      have hld := load_getD hlt
      have hbd := hok.bnd (b * 8 + k)
      have hst := firstZ_step (p := fun s => decide (x.row.load s = 0)) hz hh0
      rw [← hi1, hld] at hst
      have hhE : hasE (x.row.ws.getD (b * 8 + k) 0) (tagZ y) = decide ((unpackE (x.row.ws.getD (b * 8 + k) 0)).2 = 0 ∧ (unpackE (x.row.ws.getD (b * 8 + k) 0)).1.tag = y / 1125899906842624) := rfl
      have hnext : hasE (x.row.ws.getD (b * 8 + k) 0) (tagZ y) = false → ∀ (j : Nat) (z : Int), j < i * 7 + (k + 1) → (x.homes y)[j]? = some z → hasE (x.row.load z) (tagZ y) = false := fun he j z hj hjz => by
        rcases Nat.lt_or_ge j (i * 7 + k) with hjk | hjk
        · exact hi2 j z hjk hjz
        · obtain rfl : j = i * 7 + k := by omega
          rw [hz] at hjz
          cases hjz
          rw [hld]
          exact he
      have hfd : hasE (x.row.ws.getD (b * 8 + k) 0) (tagZ y) = true → x.found y = ((i * 7 + k : Nat) : Int) := fun he => findZ_step hz (fun j z hj hjz => hi2 j z hj hjz) (by rw [hld]; exact he)
      have hgz : (x.homes y).getD (i * 7 + k) 0 = ((b * 8 + k : Nat) : Int) := by rw [List.getD_eq_getElem?_getD, hz]; rfl
      obtain ⟨wv, hwv⟩ : ∃ wv, x.row.ws.getD (b * 8 + k) 0 = wv := ⟨_, rfl⟩
      rw [hwv] at hld hbd hst hhE hnext hfd
      repeat' (first | (refine gLR ?_; first | (refine r_own rfl rfl rfl h (fun w h => g_ldI (i := i) rfl (ownS_rd h .here) (by omega) (by rw [natsZ_length]; omega)) ?_; rw [hgb]) | (refine r_own rfl rfl rfl h (fun w h => g_ldN (i := b * 8 + k) rfl (ownS_rd h (.there (.there .here))) (by omega) (by omega)) ?_; rw [hwv])) | (refine gL ?_; refine p_val rfl (g_ldI (i := i) rfl (ownS_rd h (.there .here)) (by omega) (by rw [natsZ_length]; omega)) ?_; rw [hgb]) | refine stP ?_ | (refine stC2_R17 ?_; rintro _ w ⟨rfl, h⟩) | (refine stC3_R17 ?_; rintro v w h) | (refine stC1_R17 ?_; rintro _ w ⟨bx, rfl, h⟩) | (refine stD4_R17 ?_; rintro _ w ⟨rfl, h⟩ <;> refine nowa ?_) | (refine p_cmp rfl rfl rfl rfl (fun hc => ?_) (fun hc => ?_) <;> simp only [cmpProp] at hc) | (refine r_cmp rfl rfl rfl rfl rfl (fun hc => ?_) (fun hc => ?_) <;> simp only [cmpProp] at hc) | (refine x_drawn rfl ?_; have h := h.drew) | refine x_drawn rfl ?_ | fail)
      · have he : hasE wv (tagZ y) = true := by rw [hhE]; exact decide_eq_true ⟨by omega, by omega⟩
        have e : lookV x y = ⟨1, ((b * 8 + k : Nat) : Int), wv, x.last y⟩ := by rw [lookV, hfd he, if_pos (by omega), Int.toNat_natCast, hgz, hld]
        rw [e]
        have e2 : ((b * 8 + k : Nat) : Int) = (b : Int) * 8 + (k : Int) := by omega
        rw [e2]
        exact x_retc is_ref17_Index_Look (vs := [.agg (lookC ⟨1, (b : Int) * 8 + (k : Int), wv, x.last y⟩).toArray]) ⟨_, _, _, rfl, rfl, load_pt (h.pick (by repeat first | exact .here | apply Has.there)) (by kernel_rfl) rfl, rfl⟩ ⟨rfl, h.pm2⟩
      all_goals
        have he : hasE wv (tagZ y) = false := by rw [hhE]; exact decide_eq_false (by rintro ⟨_, _⟩; omega)
        first
          | (refine x_keep [0, 1, 4, 5, 6, 7, 8, 9] rfl (ih2 _ _ _ (by omega) ⟨k + 1, fr, rfl, by omega, ?_, hnext he, rfl, h.pm⟩)
             rw [show i * 7 + (k + 1) = i * 7 + k + 1 from rfl, hst, if_neg (by rintro ⟨h1, h2⟩; have := of_decide_eq_true h2; omega)]; done)
          | (refine x_keep [0, 1, 4, 5, 6, 7, 8, 9] rfl (ih2 _ _ _ (by omega) ⟨k + 1, (b : Int) * 8 + (k : Int), rfl, by omega, ?_, hnext he, rfl, h.pm⟩)
             rw [show i * 7 + (k + 1) = i * 7 + k + 1 from rfl, hst, if_pos ⟨by omega, decide_eq_true (by omega)⟩]
             omega)
    · obtain rfl : k = 7 := by omega
      repeat' (first | refine stPs ?_ | (refine stC2_R17 ?_; rintro _ w ⟨rfl, h⟩) | (refine stC3_R17 ?_; rintro v w h) | (refine stC1_R17 ?_; rintro _ w ⟨bx, rfl, h⟩) | (refine stD4_R17 ?_; rintro _ w ⟨rfl, h⟩ <;> refine nowa ?_) | (refine p_cmp rfl rfl rfl rfl (fun hc => ?_) (fun hc => ?_) <;> simp only [cmpProp] at hc) | (refine r_cmp rfl rfl rfl rfl rfl (fun hc => ?_) (fun hc => ?_) <;> simp only [cmpProp] at hc) | (refine x_drawn rfl ?_; have h := h.drew) | refine x_drawn rfl ?_ | fail)
      exact x_keep [0, 1, 4, 5, 6, 7, 8] rfl (ih _ _ _ (by omega) ⟨i + 1, fr, rfl, by omega, by rw [hi1, Nat.succ_mul], (fun j z hj => hi2 j z (by omega)), rfl, h⟩)
  · obtain rfl : i = vl := by omega
    rw [← hvl, ← hlh, List.take_length] at hi1
    have hnf : x.found y = -1 := findZ_none (fun j z hj hz => hi2 j z (by omega) hz)
    have hff := findZ_first (p := fun s => decide (x.row.load s = 0)) hh0
    rw [← hi1] at hff
    have hE2 : x.free y = findZ (fun s => decide (x.row.load s = 0)) (x.homes y) := rfl
    rw [← hE2] at hff
    by_cases hfr : 0 ≤ fr
    · have e : lookV x y = ⟨2, fr, 0, x.last y⟩ := by rw [lookV, if_neg (by omega), if_pos (hff.1.2 hfr), hff.2 (hff.1.2 hfr)]
      rw [e]
      repeat' (first | refine stPs ?_ | (refine stC2_R17 ?_; rintro _ w ⟨rfl, h⟩) | (refine stC3_R17 ?_; rintro v w h) | (refine stC1_R17 ?_; rintro _ w ⟨bx, rfl, h⟩) | (refine stD4_R17 ?_; rintro _ w ⟨rfl, h⟩ <;> refine nowa ?_) | (refine p_cmp rfl rfl rfl rfl (fun hc => ?_) (fun hc => ?_) <;> simp only [cmpProp] at hc) | (refine r_cmp rfl rfl rfl rfl rfl (fun hc => ?_) (fun hc => ?_) <;> simp only [cmpProp] at hc) | (refine x_drawn rfl ?_; have h := h.drew) | refine x_drawn rfl ?_ | fail)
      exact x_retc is_ref17_Index_Look (vs := [.agg (lookC ⟨2, fr, 0, x.last y⟩).toArray]) ⟨_, _, _, rfl, rfl, load_pt (h.pick (by repeat first | exact .here | apply Has.there)) (by kernel_rfl) rfl, rfl⟩ ⟨rfl, h.pm2⟩
    · have e : lookV x y = ⟨3, 0, 0, x.last y⟩ := by rw [lookV, if_neg (by omega), if_neg (fun hx => hfr (hff.1.1 hx))]
      rw [e]
      repeat' (first | refine stPs ?_ | (refine stC2_R17 ?_; rintro _ w ⟨rfl, h⟩) | (refine stC3_R17 ?_; rintro v w h) | (refine stC1_R17 ?_; rintro _ w ⟨bx, rfl, h⟩) | (refine stD4_R17 ?_; rintro _ w ⟨rfl, h⟩ <;> refine nowa ?_) | (refine p_cmp rfl rfl rfl rfl (fun hc => ?_) (fun hc => ?_) <;> simp only [cmpProp] at hc) | (refine r_cmp rfl rfl rfl rfl rfl (fun hc => ?_) (fun hc => ?_) <;> simp only [cmpProp] at hc) | (refine x_drawn rfl ?_; have h := h.drew) | refine x_drawn rfl ?_ | fail)
      exact x_retc is_ref17_Index_Look (vs := [.agg (lookC ⟨3, 0, 0, x.last y⟩).toArray]) ⟨_, _, _, rfl, rfl, load_pt (h.pick (by repeat first | exact .here | apply Has.there)) (by kernel_rfl) rfl, rfl⟩ ⟨rfl, h.pm2⟩

set_option maxHeartbeats 8000000 in
theorem ref17_Index_Link_spec {m q len cap : Nat} {x : IdxM} (k s : Int) (hok : RefOk x) (s0 : 0 ≤ s) (h : Sat S w (pt m (.cells (refC (x) (.slice (some ⟨q, 0, none⟩) len cap)) T.haycroftref17_Index (0, 0)) :: ownS T.arr_8_uint64 8 (.slice (some ⟨q, 0, none⟩) len cap) (ints .u64 (x).row.ws) :: G)) :
    Ret Try.prog F.ref17_Index_Link #[.pointer (some ⟨m, 0, none⟩), .int .i64 k, .int .i64 s] w (fun v w' => v = .tuple #[.bool (linkX x k s).1.1, .int .i64 (linkX x k s).1.2] ∧ Sat S w' (pt m (.cells (refC ((linkX x k s).2) (.slice (some ⟨q, 0, none⟩) len cap)) T.haycroftref17_Index (0, 0)) :: ownS T.arr_8_uint64 8 (.slice (some ⟨q, 0, none⟩) len cap) (ints .u64 ((linkX x k s).2).row.ws) :: G)) := by
  have hs := idx_small hok.ok
  have hsp := hok.ok.sp
  have htk := hok.ok.tk
  have hl8 := hok.ok.len
  have hll := (ownS_rd h (.there .here)).len.1
  rw [ints_length] at hll
  refine ret_of is_ref17_Index_Link rfl ?_
  by_cases hp : 0 ≤ k ∧ k < x.all ∧ x.nb ≤ s ∧ s < x.nb + x.taken
  rotate_left
  · have e : linkX x k s = ((false, 1), x) := by rw [linkX, if_neg (fun hx => hp ⟨hx.1, hx.2.1, hx.2.2.1, hx.2.2.2.1⟩)]
    rw [e]
    repeat' (first | refine stPs ?_ | (refine stC3_R17 ?_; rintro v w h) | (refine stC2_R17 ?_; rintro _ w ⟨rfl, h⟩) | (refine p_cmp rfl rfl rfl rfl (fun hc => ?_) (fun hc => ?_) <;> simp only [cmpProp] at hc) | (refine r_cmp rfl rfl rfl rfl rfl (fun hc => ?_) (fun hc => ?_) <;> simp only [cmpProp] at hc) | (refine x_drawn rfl ?_; have h := h.drew) | refine x_drawn rfl ?_ | fail)
    all_goals first | (exfalso; omega) | exact x_ret' is_ref17_Index_Link rfl ⟨rfl, h.pm⟩
  repeat' (first | refine stPs ?_ | (refine stC3_R17 ?_; rintro v w h) | (refine stC2_R17 ?_; rintro _ w ⟨rfl, h⟩) | (refine p_cmp rfl rfl rfl rfl (fun hc => ?_) (fun hc => ?_) <;> simp only [cmpProp] at hc) | (refine r_cmp rfl rfl rfl rfl rfl (fun hc => ?_) (fun hc => ?_) <;> simp only [cmpProp] at hc) | (refine x_drawn rfl ?_; have h := h.drew) | refine x_drawn rfl ?_ | fail)
  refine x_keep [0, 1, 2, 8] rfl ?_
  refine x_loop_inv (fun lm le w => ∃ (i : Nat), lm = x.all - i ∧ i ≤ x.all ∧ (∀ j, j < i → ¬ (x.lnk j ≠ 0 ∧ (x.lnk j : Int) - 1 = s)) ∧ le = [(0, .pointer (some ⟨m, 0, none⟩)), (1, .int .i64 k), (2, .int .i64 s), (8, .int .i64 i)] ∧ Sat S w (pt m (.cells (refC (x) (.slice (some ⟨q, 0, none⟩) len cap)) T.haycroftref17_Index (0, 0)) :: ownS T.arr_8_uint64 8 (.slice (some ⟨q, 0, none⟩) len cap) (ints .u64 (x).row.ws) :: G)) (x.all) ⟨0, rfl, by omega, (fun j hj => by omega), rfl, h⟩ ?_
  clear h
  rintro lm le w ⟨i, rfl, hi0, hi1, rfl, h⟩ ih
  by_cases hi : i < x.all
  · have hlk := ref_lnk hok i
    repeat' (first | (refine gL ?_; refine p_val rfl (g_ldN (i := i * 8 + 7) rfl (ownS_rd h (.there .here)) (by omega) (by omega)) ?_; rw [hlk]) | refine stP ?_ | (refine stC3_R17 ?_; rintro v w h) | (refine stC2_R17 ?_; rintro _ w ⟨rfl, h⟩) | (refine p_cmp rfl rfl rfl rfl (fun hc => ?_) (fun hc => ?_) <;> simp only [cmpProp] at hc) | (refine r_cmp rfl rfl rfl rfl rfl (fun hc => ?_) (fun hc => ?_) <;> simp only [cmpProp] at hc) | (refine x_drawn rfl ?_; have h := h.drew) | refine x_drawn rfl ?_ | fail)
    · have e : linkX x k s = ((false, 1), x) := by rw [linkX, if_neg (fun hx => hx.2.2.2.2.1 ⟨i, hi, by omega, by omega⟩)]
      rw [e]
      exact x_ret' is_ref17_Index_Link rfl ⟨rfl, h⟩
    · exact x_keep [0, 1, 2, 8] rfl (ih _ _ _ (by omega) ⟨i + 1, rfl, by omega, (fun j hj => by
        rcases Nat.lt_or_ge j i with hji | hji
        · exact hi1 j hji
        · obtain rfl : j = i := by omega
          omega), rfl, h⟩)
  · have hnl : ¬ linkedX x s := by rintro ⟨j, hj, hz⟩; exact hi1 j (by omega) hz
    have hcl : (x.chainZ s).length ≤ 1000000 := by
      unfold IdxM.chainZ
      split
      · have := chainG_length x.lnk (x.all + 1) s.toNat
        unfold IdxM.chain
        omega
      · simp
    repeat' (first | refine stPs ?_ | (refine stC3_R17 ?_; rintro v w h) | (refine stC2_R17 ?_; rintro _ w ⟨rfl, h⟩) | (refine p_cmp rfl rfl rfl rfl (fun hc => ?_) (fun hc => ?_) <;> simp only [cmpProp] at hc) | (refine r_cmp rfl rfl rfl rfl rfl (fun hc => ?_) (fun hc => ?_) <;> simp only [cmpProp] at hc) | (refine x_drawn rfl ?_; have h := h.drew) | refine x_drawn rfl ?_ | fail)
    obtain ⟨va, vl, vc, rfl, hvl, _⟩ := ownS_slice h .here
    rw [ints_length, natsZ_length, Nat.mul_one] at hvl
    refine x_keep [0, 1, 2, 9, 10] rfl ?_
    refine x_loop_inv (fun lm le w => ∃ (j : Nat), lm = vl - j ∧ j ≤ vl ∧ (∀ (c : Nat) (z : Int), c < j → (natsZ (x.chainZ s))[c]? = some z → z ≠ k) ∧ le = [(0, .pointer (some ⟨m, 0, none⟩)), (1, .int .i64 k), (2, .int .i64 s), (9, .slice va vl vc), (10, .int .i64 j)] ∧ Sat S w (ownS T.int 1 (.slice va vl vc) (ints .i64 (natsZ (x.chainZ s))) :: pt m (.cells (refC (x) (.slice (some ⟨q, 0, none⟩) len cap)) T.haycroftref17_Index (0, 0)) :: ownS T.arr_8_uint64 8 (.slice (some ⟨q, 0, none⟩) len cap) (ints .u64 (x).row.ws) :: G)) (vl) ⟨0, rfl, by omega, (fun j z hj => by omega), rfl, h⟩ ?_
    clear h
    rintro lm le w ⟨j, rfl, hi0, hi1, rfl, h⟩ ih2
    by_cases hj : j < vl
    · obtain ⟨z, hz⟩ := has_elem (show j < (natsZ (x.chainZ s)).length by rw [natsZ_length]; omega)
      obtain ⟨pa, rfl⟩ := ownS_addr h .here (by omega)
      have hgz : (natsZ (x.chainZ s)).getD j 0 = z := by rw [List.getD_eq_getElem?_getD, hz]; rfl
      repeat' (first | (refine gL ?_; refine p_val rfl (g_ldI (i := j) rfl (ownS_rd h .here) (by omega) (by rw [natsZ_length]; omega)) ?_; rw [hgz]) | refine stP ?_ | (refine stC3_R17 ?_; rintro v w h) | (refine stC2_R17 ?_; rintro _ w ⟨rfl, h⟩) | (refine p_cmp rfl rfl rfl rfl (fun hc => ?_) (fun hc => ?_) <;> simp only [cmpProp] at hc) | (refine r_cmp rfl rfl rfl rfl rfl (fun hc => ?_) (fun hc => ?_) <;> simp only [cmpProp] at hc) | (refine x_drawn rfl ?_; have h := h.drew) | refine x_drawn rfl ?_ | fail)
      · have e : linkX x k s = ((false, 1), x) := by
          rw [linkX, if_neg (fun hx => hx.2.2.2.2.2 (by rw [← hc]; exact List.mem_of_getElem? hz))]
        rw [e]
        exact x_ret' is_ref17_Index_Link rfl ⟨rfl, h.pm⟩
      · exact x_keep [0, 1, 2, 9, 10] rfl (ih2 _ _ _ (by omega) ⟨j + 1, rfl, by omega, (fun c z' hc' hz' => by
          rcases Nat.lt_or_ge c j with hcj | hcj
          · exact hi1 c z' hcj hz'
          · obtain rfl : c = j := by omega
            rw [hz] at hz'
            cases hz'
            exact hc), rfl, h⟩)
    · have hnm : ¬ k ∈ natsZ (x.chainZ s) := fun hm => by
        obtain ⟨c, hc⟩ := List.getElem?_of_mem hm
        have hlt := (List.getElem?_eq_some_iff.1 hc).1
        rw [natsZ_length] at hlt
        exact hi1 c k (by omega) hc rfl
      have e : linkX x k s = tryX x (k * 8 + 7) 0 (s + 1) := by rw [linkX, if_pos ⟨hp.1, hp.2.1, hp.2.2.1, hp.2.2.2, hnl, hnm⟩]
      obtain ⟨kb, rfl⟩ := Int.eq_ofNat_of_zero_le hp.1
      have e2 : ((kb : Int) * 8 + 7) = ((kb * 8 + 7 : Nat) : Int) := by omega
      rw [e, e2]
      have ht : x.row.may ((kb * 8 + 7 : Nat) : Int) = 0 := by rw [RowM.may, if_pos ⟨by omega, by omega⟩]
      have hkl : kb * 8 + 7 < x.row.ws.length := by omega
      repeat' (first | (refine gC F.ref17_Index_Try ?_; refine p_call rfl rfl (ref17_Index_Try_spec (kb * 8 + 7) 0 (s + 1) hok hkl (h.rf2)) ?_; rintro _ w ⟨rfl, h⟩) | refine stP ?_ | (refine stC3_R17 ?_; rintro v w h) | (refine stC2_R17 ?_; rintro _ w ⟨rfl, h⟩) | (refine p_cmp rfl rfl rfl rfl (fun hc => ?_) (fun hc => ?_) <;> simp only [cmpProp] at hc) | (refine r_cmp rfl rfl rfl rfl rfl (fun hc => ?_) (fun hc => ?_) <;> simp only [cmpProp] at hc) | (refine x_drawn rfl ?_; have h := h.drew) | refine x_drawn rfl ?_ | fail)
      refine x_ret' is_ref17_Index_Link rfl ⟨?_, h.pm⟩
      show Value.tuple #[_, .int .i64 0] = Value.tuple #[_, .int .i64 (x.row.may _)]
      rw [ht]
end
end Go.Proofs.Ytmlkeackapflhaa
