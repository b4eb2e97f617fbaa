/- Layer 33 (grow): the spare buckets that are needed, the address of a number, an index that is not there. -/
import Derived.Test.YtmlkeackapflhaaHxS
import Derived.Test.YtmlkeackapflhaaP33c
namespace Go.Proofs.Ytmlkeackapflhaa
open Go Go.HX
attribute [local irreducible] Ret XRun XOps XDr XOne Does Gives
set_option maxRecDepth 4000
set_option maxHeartbeats 1000000
theorem stC0_P33d {goal next : Prop} (k : next) (hs : Hid next → goal := by (intro k; (first | (refine gC F.grow_may ?_; refine p_call rfl rfl (grow_may_spec _ ?_ ?_ ?_ ?_ (h.rf3)) ?_; iterate 4 (first | assumption | omega | (simp only []; omega) | decide)) | (refine gC F.grow_may ?_; refine p_call rfl rfl (grow_may_nil _ h) ?_) | (refine gC F.index_Index_Look ?_; refine p_call rfl rfl (index_Index_Look_nil _ h) ?_) | (refine gC F.index_Index_Look ?_; refine p_call rfl rfl (index_Index_Look_spec _ ?_ ?_ ?_ (h.rf2)) ?_; iterate 3 (first | assumption | omega | (simp only []; omega) | decide)) | (refine gC F.entry_Unpack ?_; refine p_call rfl rfl (entry_Unpack_spec _ ?_ ?_ h) ?_; iterate 2 (first | assumption | omega | (simp only []; omega) | decide)) | (refine gS ?_; (first | refine p_do rfl (d_stwL rfl rfl rfl rfl rfl (h.pick (by repeat first | exact .here | apply Has.there)) (by first | (dsimp only [Value.cells]; done) | exact rfl)) ?_ | refine p_do rfl (d_stL rfl rfl rfl (h.pick (by repeat first | exact .here | apply Has.there)) (by first | exact of_decide_eq_true rfl | simp) (by first | (dsimp only [List.set]; done) | exact rfl)) ?_)) | (refine gC F.ref17_Index_Look ?_; refine p_call rfl rfl (ref17_Index_Look_spec _ ?_ ?_ ?_ (h.rf2)) ?_; iterate 3 (first | assumption | omega | (simp only []; omega) | decide)) | (refine gC F.index_Index_Chain ?_; refine p_call rfl rfl (index_Index_Chain_nil _ h) ?_) | (refine gC F.grow_Twice ?_; refine p_call rfl rfl (grow_Twice_nil _ _ h) ?_) | (refine gC F.index_Index_Words ?_; refine p_call rfl rfl (index_Index_Words_nil h) ?_) | (refine gC F.index_Index_Entries ?_; refine p_call rfl rfl (index_Index_Entries_nil h) ?_) | (refine gC F.law33_awake ?_; refine p_call rfl rfl (law33_awake_spec h) ?_) | (refine gC F.grow_Load ?_; refine p_call rfl rfl (grow_Load_nil _ h) ?_) | (refine gC F.grow_Needs ?_; refine p_call rfl rfl (grow_Needs_spec ?_ ?_ (h.rf3)) ?_; iterate 2 (first | assumption | omega | (simp only []; omega) | decide)) | (refine gC F.grow_Needs ?_; refine p_call rfl rfl (grow_Needs_nil _ h) ?_) | (refine gC F.grow_Addr ?_; refine p_call rfl rfl (grow_Addr_spec _ ?_ ?_ ?_ (h.rf3)) ?_; iterate 3 (first | assumption | omega | (simp only []; omega) | decide)) | (refine gC F.grow_Addr ?_; refine p_call rfl rfl (grow_Addr_nil _ h) ?_) | fail); exact k.out)) : goal := hs ⟨k⟩
theorem stC1_P33d {goal next : Prop} (k : next) (hs : Hid next → goal := by (intro k; (first | (refine gC F.grow_old ?_; refine p_call rfl rfl (grow_old_spec _ ?_ ?_ (h.rf2)) ?_; iterate 2 (first | assumption | omega | (simp only []; omega) | decide)) | (refine gC F.grow_words ?_; refine p_call rfl rfl (grow_words_spec _ ?_ ?_ (h.rf2)) ?_; iterate 2 (first | assumption | omega | (simp only []; omega) | decide)) | (refine gC F.index_Index_Chain ?_; refine p_call rfl rfl (index_Index_Chain_spec _ ?_ (h.rf2)) ?_; iterate 1 (first | assumption | omega | (simp only []; omega) | decide)) | (refine gC F.index_Index_Words ?_; refine p_call rfl rfl (index_Index_Words_spec ?_ (h.rf3)) ?_; iterate 1 (first | assumption | omega | (simp only []; omega) | decide)) | (refine gC F.index_Index_Entries ?_; refine p_call rfl rfl (index_Index_Entries_spec ?_ (h.rf3)) ?_; iterate 1 (first | assumption | omega | (simp only []; omega) | decide)) | fail); exact k.out)) : goal := hs ⟨k⟩
theorem stC2_P33d {goal next : Prop} (k : next) (hs : Hid next → goal := by (intro k; (first | (refine gN ?_; refine p_do rfl (d_newL h (by first | (dsimp only [Value.cells]; done) | exact rfl)) ?_) | fail); exact k.out)) : goal := hs ⟨k⟩
theorem stC3_P33d {goal next : Prop} (k : next) (hs : Hid next → goal := by (intro k; (first | (refine gC F.index_New ?_; refine p_call rfl rfl (index_New_spec _ _ h) ?_) | fail); exact k.out)) : goal := hs ⟨k⟩
theorem stC4_P33d {goal next : Prop} (k : next) (hs : Hid next → goal := by (intro k; (first | (refine gC F.grow_put ?_; refine p_call rfl rfl (grow_put_spec _ _ ?_ ?_ ?_ ?_ _ ?_ ?_ (h.rf3)) ?_; iterate 6 (first | assumption | omega | (simp only []; omega) | decide)) | fail); exact k.out)) : goal := hs ⟨k⟩
theorem stC5_P33d {goal next : Prop} (k : next) (hs : Hid next → goal := by (intro k; (first | (refine gC F.grow_Twice ?_; refine p_call rfl rfl (grow_Twice_spec ?_ ?_ ?_ ?_ (h.rf3)) ?_; iterate 4 (first | assumption | omega | (simp only []; omega) | decide)) | fail); exact k.out)) : goal := hs ⟨k⟩
theorem found_word {x : IdxM} {Cs : List (List Nat)} (h : Forest x Cs) (g : Int) (hk : (lookV x g).kind = 1) : (unpackE (lookV x g).word).2 = 0 ∧ (unpackE (lookV x g).word).1.addr = (lookV x g).word % 281474976710656 := by
  obtain ⟨b, C, _, _, _, hC, _, hcase⟩ := look_tells h g
  rcases hcase with ⟨_, s, hs, _, hw, hE⟩ | ⟨hk', _⟩ | ⟨hk', _⟩
  · rw [hw]
    obtain ⟨h0, h1, _⟩ := hasE_nz hE
    refine ⟨h1, ?_⟩
    unfold unpackE at h1 ⊢
    rw [if_neg h0] at h1 ⊢
    split at h1
    · cases h1
    · rename_i hn
      rw [if_neg hn]
      rfl
  · omega
  · omega
section
variable {S : SP} {w : World} {G : List HProp}

theorem grow_Needs_spec {b c d : Nat} {x : IdxM} {Cs : List (List Nat)} (hF : Forest x Cs) (h5 : x.nb ≤ 512) (h : Sat S w (pt b (.cells (idxC (x) c d) T.index_Index (0, 0)) :: isRow c (x).row :: isRow d (x).tk :: G)) :
    Ret Try.prog F.grow_Needs #[.pointer (some ⟨b, 0, none⟩), .int .i64 x.nb] w (fun v w' => v = .int .i64 (needX x x.nb) ∧ Sat S w' (pt b (.cells (idxC (x) c d) T.index_Index (0, 0)) :: isRow c (x).row :: isRow d (x).tk :: G)) := by
  have hok := hF.ok.ok
  have hsm := idx_small hok
  have hmay := hok.may
  refine ret_of is_grow_Needs rfl ?_
  repeat' (first | (refine gC F.grow_may ?_; refine p_call rfl rfl (grow_may_spec _ hok hmay (by omega) (by omega) (h.rf3)) ?_; rintro _ w ⟨rfl, h⟩) | refine stP ?_ | (refine stC0_P33d ?_; rintro _ w ⟨rfl, h⟩) | (refine stC1_P33d ?_; rintro v w h) | (refine p_cmp rfl rfl rfl rfl (fun hc => ?_) (fun hc => ?_) <;> simp only [cmpProp] at hc) | fail)
  refine x_keep [0, 5, 12, 13] rfl ?_
  refine x_loop_inv (fun lm le w => ∃ (i : Nat), ∃ (s : Int), lm = x.nb - i ∧ i ≤ x.nb ∧ s = needX x i ∧ le = [(0, .pointer (some ⟨b, 0, none⟩)), (5, .int .i64 s), (12, .int .i64 x.nb), (13, .int .i64 i)] ∧ Sat S w (pt b (.cells (idxC (x) c d) T.index_Index (0, 0)) :: isRow c (x).row :: isRow d (x).tk :: G)) (x.nb) ⟨0, 0, rfl, by omega, rfl, rfl, h⟩ ?_
  clear h
  rintro lm le w ⟨i, s, rfl, hi0, hi1, rfl, h⟩ ih
  have hnl := needX_le hok i
  by_cases hi : i < x.nb
  · have hol : (x.old i).length ≤ 8000 := Nat.le_trans (oldL_le _) (entries_le i hok)
    have hn2 := needX_le hok (i + 1)
    have hns : needX x (i + 1) = needX x i + 2 * (((x.old i).length - 1) / 7) := rfl
    repeat' (first | refine stPs ?_ | (refine stC0_P33d ?_; rintro _ w ⟨rfl, h⟩) | (refine stC1_P33d ?_; rintro v w h) | (refine p_cmp rfl rfl rfl rfl (fun hc => ?_) (fun hc => ?_) <;> simp only [cmpProp] at hc) | fail)
    refine p_call rfl rfl (grow_old_spec i hF hi (h.rf2)) ?_
    rintro v w h
    obtain ⟨va, vl, vc, rfl, hvl, _⟩ := ownS_slice h .here
    rw [rows_length entC_len] at hvl
    have hvl : (x.old i).length = vl := by omega
    rw [hvl] at hol hns
    repeat' (first | refine stPs ?_ | (refine stC0_P33d ?_; rintro _ w ⟨rfl, h⟩) | (refine stC1_P33d ?_; rintro v w h) | (refine p_cmp rfl rfl rfl rfl (fun hc => ?_) (fun hc => ?_) <;> simp only [cmpProp] at hc) | fail)
    exact x_keep [0, 5, 12, 13] rfl (ih _ _ _ (by omega) ⟨i + 1, _, rfl, by omega, by omega, rfl, h.pm3⟩)
  · obtain rfl : i = x.nb := by omega
    rw [hi1]
    repeat' (first | refine stPs ?_ | (refine stC0_P33d ?_; rintro _ w ⟨rfl, h⟩) | (refine stC1_P33d ?_; rintro v w h) | (refine p_cmp rfl rfl rfl rfl (fun hc => ?_) (fun hc => ?_) <;> simp only [cmpProp] at hc) | fail)
    exact x_ret' is_grow_Needs rfl ⟨rfl, h⟩

theorem grow_Addr_spec {b c d : Nat} {x : IdxM} {Cs : List (List Nat)} (g : Int) (hF : Forest x Cs) (g0 : 0 ≤ g) (g1 : g ≤ 18446744073709551615) (h : Sat S w (pt b (.cells (idxC (x) c d) T.index_Index (0, 0)) :: isRow c (x).row :: isRow d (x).tk :: G)) :
    Ret Try.prog F.grow_Addr #[.pointer (some ⟨b, 0, none⟩), .int .u64 g] w (fun v w' => v = .int .u64 (addrV x g) ∧ Sat S w' (pt b (.cells (idxC (x) c d) T.index_Index (0, 0)) :: isRow c (x).row :: isRow d (x).tk :: G)) := by
  have hok := hF.ok.ok
  have hlb := look_bnd hF.ok g
  have hfw := found_word hF g
  unfold addrV toldV
  obtain ⟨l, hl⟩ : ∃ l, lookV x g = l := ⟨_, rfl⟩
  rw [hl] at hlb hfw ⊢
  refine ret_of is_grow_Addr rfl ?_
  by_cases hk : l.kind = 1
  · obtain ⟨f1, f2⟩ := hfw hk
    rw [if_pos hk]
    obtain ⟨⟨⟨ea, et, ef⟩, ez⟩, hu⟩ : ∃ q, unpackE l.word = q := ⟨_, rfl⟩
    rw [hu] at f1 f2 ⊢
    simp only at f1
    subst f1
    repeat' (first | (refine gC F.index_Index_Look ?_; refine p_call rfl rfl (index_Index_Look_spec _ g0 g1 hok (h.rf2)) ?_; rw [hl]; rintro _ w ⟨rfl, h⟩) | (refine gC F.entry_Unpack ?_; refine p_call rfl rfl (entry_Unpack_spec _ (by omega) (by omega) h) ?_; rw [hu]; rintro _ w ⟨rfl, h⟩) | refine stP ?_ | (refine stC0_P33d ?_; rintro _ w ⟨rfl, h⟩) | (refine stC2_P33d ?_; rintro _ w ⟨bx, rfl, h⟩) | (refine p_cmp rfl rfl rfl rfl (fun hc => ?_) (fun hc => ?_) <;> simp only [cmpProp] at hc) | fail)
    exact x_ret' is_grow_Addr rfl ⟨rfl, h.pm3⟩
  · rw [if_neg hk]
    repeat' (first | (refine gC F.index_Index_Look ?_; refine p_call rfl rfl (index_Index_Look_spec _ g0 g1 hok (h.rf2)) ?_; rw [hl]; rintro _ w ⟨rfl, h⟩) | refine stP ?_ | (refine stC0_P33d ?_; rintro _ w ⟨rfl, h⟩) | (refine stC2_P33d ?_; rintro _ w ⟨bx, rfl, h⟩) | (refine p_cmp rfl rfl rfl rfl (fun hc => ?_) (fun hc => ?_) <;> simp only [cmpProp] at hc) | fail)
    exact x_ret' is_grow_Addr rfl ⟨rfl, h.pm3⟩

theorem ref33_Addr_spec {m q len cap : Nat} {x : IdxM} {Cs : List (List Nat)} (g : Int) (hF : Forest x Cs) (g0 : 0 ≤ g) (g1 : g ≤ 18446744073709551615) (h : Sat S w (pt m (.cells (refC (x) (.slice (some ⟨q, 0, none⟩) len cap)) T.haycroftref17_Index (0, 0)) :: ownS T.arr_8_uint64 8 (.slice (some ⟨q, 0, none⟩) len cap) (ints .u64 (x).row.ws) :: G)) :
    Ret Try.prog F.ref33_Addr #[.pointer (some ⟨m, 0, none⟩), .int .u64 g] w (fun v w' => v = .int .u64 (addrV x g) ∧ Sat S w' (pt m (.cells (refC (x) (.slice (some ⟨q, 0, none⟩) len cap)) T.haycroftref17_Index (0, 0)) :: ownS T.arr_8_uint64 8 (.slice (some ⟨q, 0, none⟩) len cap) (ints .u64 (x).row.ws) :: G)) := by
  have hok := hF.ok
  have hlb := look_bnd hok g
  have hfw := found_word hF g
  unfold addrV toldV
  obtain ⟨l, hl⟩ : ∃ l, lookV x g = l := ⟨_, rfl⟩
  rw [hl] at hlb hfw ⊢
  refine ret_of is_ref33_Addr rfl ?_
  by_cases hk : l.kind = 1
  · obtain ⟨f1, f2⟩ := hfw hk
    rw [if_pos hk, f2]
    repeat' (first | (refine gC F.ref17_Index_Look ?_; refine p_call rfl rfl (ref17_Index_Look_spec _ hok g0 g1 (h.rf2)) ?_; rw [hl]; rintro _ w ⟨rfl, h⟩) | (refine gB .rem ?_; refine p_val rfl (g_rem_u rfl rfl (by omega) (by omega)) ?_) | refine stP ?_ | (refine stC0_P33d ?_; rintro _ w ⟨rfl, h⟩) | (refine stC2_P33d ?_; rintro _ w ⟨bx, rfl, h⟩) | (refine p_cmp rfl rfl rfl rfl (fun hc => ?_) (fun hc => ?_) <;> simp only [cmpProp] at hc) | fail)
    exact x_ret' is_ref33_Addr rfl ⟨rfl, h.pm2⟩
  · rw [if_neg hk]
    repeat' (first | (refine gC F.ref17_Index_Look ?_; refine p_call rfl rfl (ref17_Index_Look_spec _ hok g0 g1 (h.rf2)) ?_; rw [hl]; rintro _ w ⟨rfl, h⟩) | refine stP ?_ | (refine stC0_P33d ?_; rintro _ w ⟨rfl, h⟩) | (refine stC2_P33d ?_; rintro _ w ⟨bx, rfl, h⟩) | (refine p_cmp rfl rfl rfl rfl (fun hc => ?_) (fun hc => ?_) <;> simp only [cmpProp] at hc) | fail)
    exact x_ret' is_ref33_Addr rfl ⟨rfl, h.pm2⟩

theorem grow_Twice_nil (n s : Int) (h : Sat S w G) : Ret Try.prog F.grow_Twice #[.pointer none, .int .i64 n, .int .i64 s] w (fun v w' => v = .tuple #[.pointer none, .int .i64 2] ∧ Sat S w' G) := by
  refine ret_of is_grow_Twice rfl ?_
  repeat' (first | refine stPs ?_ | (refine stC0_P33d ?_; rintro _ w ⟨rfl, h⟩) | (refine stC3_P33d ?_; rintro _ w (⟨hq1, rfl, h⟩ | ⟨⟨hq2, hq3, hq4⟩, ⟨b, c, d, rfl, h⟩⟩)) | (refine stC1_P33d ?_; rintro v w h) | (refine stC4_P33d ?_; rintro _ w ⟨rfl, ⟨z, hq1, h⟩⟩) | (refine stC2_P33d ?_; rintro _ w ⟨bx, rfl, h⟩) | (refine p_cmp rfl rfl rfl rfl (fun hc => ?_) (fun hc => ?_) <;> simp only [cmpProp] at hc) | fail)
  exact x_ret' is_grow_Twice rfl ⟨rfl, h⟩

theorem grow_Needs_nil (n : Int) (h : Sat S w G) : Ret Try.prog F.grow_Needs #[.pointer none, .int .i64 n] w (fun v w' => v = .int .i64 0 ∧ Sat S w' G) := by
  refine ret_of is_grow_Needs rfl ?_
  repeat' (first | refine stPs ?_ | (refine stC0_P33d ?_; rintro _ w ⟨rfl, h⟩) | (refine stC1_P33d ?_; rintro v w h) | (refine p_cmp rfl rfl rfl rfl (fun hc => ?_) (fun hc => ?_) <;> simp only [cmpProp] at hc) | fail)
  exact x_ret' is_grow_Needs rfl ⟨rfl, h⟩

theorem grow_Load_nil (n : Int) (h : Sat S w G) : Ret Try.prog F.grow_Load #[.pointer none, .int .i64 n] w (fun v w' => v = .tuple #[.int .i64 0, .int .i64 0] ∧ Sat S w' G) := by
  refine ret_of is_grow_Load rfl ?_
  repeat' (first | refine stPs ?_ | (refine stC0_P33d ?_; rintro _ w ⟨rfl, h⟩) | (refine stC1_P33d ?_; rintro v w h) | (refine p_cmp rfl rfl rfl rfl (fun hc => ?_) (fun hc => ?_) <;> simp only [cmpProp] at hc) | fail)
  exact x_ret' is_grow_Load rfl ⟨rfl, h⟩

theorem grow_Addr_nil (g : Int) (h : Sat S w G) : Ret Try.prog F.grow_Addr #[.pointer none, .int .u64 g] w (fun v w' => v = .int .u64 0 ∧ Sat S w' G) := by
  refine ret_of is_grow_Addr rfl ?_
  repeat' (first | refine stPs ?_ | (refine stC0_P33d ?_; rintro _ w ⟨rfl, h⟩) | (refine stC2_P33d ?_; rintro _ w ⟨bx, rfl, h⟩) | (refine p_cmp rfl rfl rfl rfl (fun hc => ?_) (fun hc => ?_) <;> simp only [cmpProp] at hc) | fail)
  exact x_ret' is_grow_Addr rfl ⟨rfl, h.pm⟩

theorem law33_awake_spec (h : Sat S w G) : Ret Try.prog F.law33_awake #[] w (fun v w' => v = .bool true ∧ Sat S w' G) := by
  refine ret_of is_law33_awake rfl ?_
  have hF := forest_new (n := 1) (s := 0) (.inl rfl) (by omega) (by omega)
  have hnb : (idx0 1 0).nb = 1 := rfl
  have ho : (idx0 1 0).old 0 = [] := rfl
  have hn0 : needX (idx0 1 0) (idx0 1 0).nb ≤ 0 := by rw [hnb, needX, ho]; simp [needX]
  repeat' (first | (refine gC F.index_New ?_; refine p_call rfl rfl (index_New_spec 1 0 h) ?_; rintro _ w (⟨hx, _⟩ | ⟨_, b2, c2, d2, rfl, h⟩); exact absurd ⟨.inl rfl, by omega, by omega⟩ hx) | refine stP ?_ | (refine stC3_P33d ?_; rintro _ w (⟨hq1, rfl, h⟩ | ⟨⟨hq2, hq3, hq4⟩, ⟨b, c, d, rfl, h⟩⟩)) | (refine stC5_P33d ?_; rintro _ w ⟨b2, c2, d2, y, rfl, hq1, h⟩) | (refine stC0_P33d ?_; rintro _ w ⟨rfl, h⟩) | (refine stC1_P33d ?_; rintro v w h) | (refine p_cmp rfl rfl rfl rfl (fun hc => ?_) (fun hc => ?_) <;> simp only [cmpProp] at hc) | fail)
  refine p_call rfl rfl (grow_Twice_spec (s := 0) hF (by rw [hnb]; omega) hn0 (by omega) (h.rf3)) ?_
  rintro _ w ⟨b3, c3, d3, y, rfl, hy, h⟩
  obtain ⟨ynb, ysp, Ds, hyF, _, hyc⟩ := hy
  have hyok := hyF.ok.ok
  have hyl := hyok.len
  have hall : y.all = 2 := by unfold IdxM.all; rw [ynb, ysp, hnb]
  have hpz : puts (idx0 1 0) (idx0 1 0).nb = [] := rfl
  have hye : y.allE y.nb = [] := by
    have : ∀ b, b < y.nb → y.entries b = [] := fun b hb => by
      obtain ⟨C, hC⟩ := hyF.ch.get hb
      have h1 := entries_cnt hyF hC
      rw [(hyc b C hC).1, hpz] at h1
      exact List.length_eq_zero_iff.1 h1
    unfold IdxM.allE
    rw [List.flatMap_eq_nil_iff]
    intro b hb
    exact this b (List.mem_range.1 hb)
  repeat' (first | (refine gC F.index_Index_Words ?_; refine p_call rfl rfl (index_Index_Words_spec hyok (h.rf3)) ?_; rintro v w h; obtain ⟨va, vl, vc, rfl, hvl, _⟩ := ownS_slice h .here; rw [ints_length, Nat.mul_one, List.length_cons] at hvl) | (refine gC F.index_Index_Entries ?_; refine p_call rfl rfl (index_Index_Entries_spec hyok (h.rf3)) ?_; rintro v w h; obtain ⟨ea, el, ec, rfl, hel, _⟩ := ownS_slice h .here; rw [ints_length, Nat.mul_one, hye, List.length_nil] at hel) | refine stP ?_ | (refine stC3_P33d ?_; rintro _ w (⟨hq1, rfl, h⟩ | ⟨⟨hq2, hq3, hq4⟩, ⟨b, c, d, rfl, h⟩⟩)) | (refine stC5_P33d ?_; rintro _ w ⟨b2, c2, d2, y, rfl, hq1, h⟩) | (refine stC0_P33d ?_; rintro _ w ⟨rfl, h⟩) | (refine stC1_P33d ?_; rintro v w h) | (refine p_cmp rfl rfl rfl rfl (fun hc => ?_) (fun hc => ?_) <;> simp only [cmpProp] at hc) | fail)
  exact x_ret' is_law33_awake rfl ⟨rfl, h.pm⟩

theorem law33_GrowNil_spec (n s g : Int) (h : Sat S w G) : Ret Try.prog F.law33_GrowNil #[.int .i64 n, .int .i64 s, .int .u64 g] w (fun v w' => v = .bool true ∧ Sat S w' G) := by
  refine ret_of is_law33_GrowNil rfl ?_
  repeat' (first | refine stPs ?_ | (refine stC0_P33d ?_; rintro _ w ⟨rfl, h⟩) | (refine stC5_P33d ?_; rintro _ w ⟨b2, c2, d2, y, rfl, hq1, h⟩) | (refine p_cmp rfl rfl rfl rfl (fun hc => ?_) (fun hc => ?_) <;> simp only [cmpProp] at hc) | fail)
  exact x_ret' is_law33_GrowNil rfl ⟨rfl, h⟩
theorem GrowNil_law (a0 a1 a2 : Int) (W : World) (_w0 : (Lit.int .i64 a0).wf = true) (_w1 : (Lit.int .i64 a1).wf = true) (_w2 : (Lit.int .u64 a2).wf = true) :
    Ret Try.prog F.law33_GrowNil #[.int .i64 a0, .int .i64 a1, .int .u64 a2] W (fun v w' => v = .bool true ∧ Sat ⟨W.heap.size, W⟩ w' []) :=
  law33_GrowNil_spec a0 a1 a2 (Sat.begin W)
end
end Go.Proofs.Ytmlkeackapflhaa
