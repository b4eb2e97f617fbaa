/- Layer 33 (grow): words, entries, what a chain holds. -/
import Derived.Test.YtmlkeackapflhaaHxS
import Derived.Test.YtmlkeackapflhaaL17e
namespace Go.Proofs.Ytmlkeackapflhaa
open Go Go.HX
attribute [local irreducible] Ret XRun XOps XDr XOne Does Gives
set_option maxRecDepth 4000
set_option maxHeartbeats 1000000
theorem stC0_P33 {goal next : Prop} (k : next) (hs : Hid next → goal := by (intro k; (first | (refine gC F.cell_Row_Load ?_; refine p_call rfl rfl (cell_Row_Load_spec _ (h.rf1)) ?_) | (refine gC F.cell_Row_Load ?_; refine p_call rfl rfl (cell_Row_Load_nil _ h) ?_) | (refine gC F.index_Index_Chain ?_; refine p_call rfl rfl (index_Index_Chain_nil _ h) ?_) | (refine gC F.index_Index_Words ?_; refine p_call rfl rfl (index_Index_Words_nil h) ?_) | (refine gC F.index_Index_Load ?_; refine p_call rfl rfl (index_Index_Load_nil _ h) ?_) | (refine gC F.index_Index_Load ?_; refine p_call rfl rfl (index_Index_Load_spec _ (h.rf2)) ?_) | (refine gC F.field_Put ?_; refine p_call rfl rfl (field_Put_spec _ _ _ _ ?_ ?_ ?_ h) ?_; iterate 3 (first | assumption | omega | (simp only []; omega) | decide)) | fail); exact k.out)) : goal := hs ⟨k⟩
theorem stD1_P33 {goal next : Prop} (k : next) (hs : Hid next → goal := by (intro k; (first | (refine gCR F.cell_Row_Len ?_; refine r_call rfl rfl rfl (cell_Row_Len_spec (h.rf1)) ?_) | (refine gCR F.cell_Row_Len ?_; refine r_call rfl rfl rfl (cell_Row_Len_nil h) ?_) | (refine gCR F.cell_Row_Words ?_; refine r_call rfl rfl rfl (cell_Row_Words_nil _ _ h) ?_) | fail); exact k.out)) : goal := hs ⟨k⟩
theorem stD2_P33 {goal next : Prop} (k : next) (hs : Hid next → goal := by (intro k; (first | (refine gCR F.cell_Row_Words ?_; refine r_call rfl rfl rfl (cell_Row_Words_spec _ _ (h.rf1)) ?_) | fail); exact k.out)) : goal := hs ⟨k⟩
theorem stC3_P33 {goal next : Prop} (k : next) (hs : Hid next → goal := by (intro k; (first | (refine gC F.index_Index_Chain ?_; refine p_call rfl rfl (index_Index_Chain_spec _ ?_ (h.rf2)) ?_; iterate 1 (first | assumption | omega | (simp only []; omega) | decide)) | (refine gC F.index_Index_Words ?_; refine p_call rfl rfl (index_Index_Words_spec ?_ (h.rf3)) ?_; iterate 1 (first | assumption | omega | (simp only []; omega) | decide)) | fail); exact k.out)) : goal := hs ⟨k⟩
theorem stC4_P33 {goal next : Prop} (k : next) (hs : Hid next → goal := by (intro k; (first | (refine gC F.mix_May ?_; refine p_call rfl rfl (mix_May_spec _ h) ?_) | fail); exact k.out)) : goal := hs ⟨k⟩
/-- All entries of the first buckets. -/
def IdxM.allE (x : IdxM) (i : Nat) : List Int := (List.range i).flatMap x.entries
theorem words_length (x : IdxM) (b : Nat) : (x.words b).length = (x.chain b).length * 7 := by unfold IdxM.words; rw [List.length_map, slotsG_length]
theorem entries_le {x : IdxM} (b : Nat) (hok : IdxOk x) : (x.entries b).length ≤ 8000 := by
  have h1 := List.length_filter_le nz (x.words b)
  have h2 := words_length x b
  have h3 : (x.chain b).length ≤ x.all + 1 := chainG_length x.lnk (x.all + 1) b
  have h4 := idx_small hok
  unfold IdxM.entries
  omega
theorem allE_le {x : IdxM} (hok : IdxOk x) : ∀ i : Nat, (x.allE i).length ≤ i * 8000
  | 0 => by simp [IdxM.allE]
  | i + 1 => by
    have h1 := allE_le hok i
    have h2 := entries_le i hok
    unfold IdxM.allE at h1 ⊢
    rw [List.range_succ, List.flatMap_append, List.length_append]
    simp only [List.flatMap_cons, List.flatMap_nil, List.append_nil]
    omega
section
variable {S : SP} {w : World} {G : List HProp}

theorem index_Index_Words_spec {b c d : Nat} {x : IdxM} (hok : IdxOk x) (h : Sat S w (pt b (.cells (idxC (x) c d) T.index_Index (0, 0)) :: isRow c (x).row :: isRow d (x).tk :: G)) :
    Ret Try.prog F.index_Index_Words #[.pointer (some ⟨b, 0, none⟩)] w (fun v w' => Sat S w' (ownS T.uint64 1 v (ints .u64 ((x.taken : Int) :: x.row.ws)) :: pt b (.cells (idxC (x) c d) T.index_Index (0, 0)) :: isRow c (x).row :: isRow d (x).tk :: G)) := by
  have hs := idx_small hok
  have hl8 := hok.len
  have htl := sp_taken hok.spOk (isRow_ok h (by repeat first | exact .here | apply Has.there))
  have hrow := isRow_ok h (.there .here)
  have hin : x.row.inR 0 x.row.ws.length := ⟨by omega, by omega, by omega, by omega⟩
  refine ret_of is_index_Index_Words rfl ?_
  repeat' (first | (refine gCR F.cell_Row_Words ?_; refine r_call rfl rfl rfl (cell_Row_Words_spec 0 x.row.ws.length (h.rf1)) ?_; rintro _ w (⟨hx, _⟩ | ⟨hx, u, rfl, h⟩); exact absurd hin hx; rw [show ((x.row.ws.drop (0 : Int).toNat).take ((x.row.ws.length : Nat) : Int).toNat) = x.row.ws by simp] at h; refine nowa ?_) | (refine gC F.cell_Row_Load ?_; refine p_call rfl rfl (cell_Row_Load_spec 0 (h.rf1)) ?_; rw [htl]; rintro _ w ⟨rfl, h⟩) | refine stP ?_ | (refine stC0_P33 ?_; rintro _ w ⟨rfl, h⟩) | (refine stD1_P33 ?_; rintro _ w ⟨rfl, h⟩ <;> refine nowa ?_) | (refine stD2_P33 ?_; rintro _ w (⟨hq1, rfl, h⟩ | ⟨hq2, ⟨u, rfl, h⟩⟩) <;> refine nowa ?_) | (refine x_drawn rfl ?_; have h := h.drew) | refine x_drawn rfl ?_ | fail)
  refine p_lit [.int .u64 x.taken] rfl rfl rfl rfl rfl rfl h (fun v w h => ?_)
  repeat' (first | refine stPs ?_ | (refine stC0_P33 ?_; rintro _ w ⟨rfl, h⟩) | (refine stD1_P33 ?_; rintro _ w ⟨rfl, h⟩ <;> refine nowa ?_) | (refine stD2_P33 ?_; rintro _ w (⟨hq1, rfl, h⟩ | ⟨hq2, ⟨u, rfl, h⟩⟩) <;> refine nowa ?_) | (refine x_drawn rfl ?_; have h := h.drew) | refine x_drawn rfl ?_ | fail)
  refine p_app rfl rfl rfl rfl (by decide) (h.pick .here) (ownS_rd h (by repeat first | exact .here | apply Has.there)) (ints_one _ _) (by rw [ints_length]; simp; omega) (by rw [ints_length]; simp; omega) (fun v w h => ?_)
  repeat' (first | refine stPs ?_ | (refine stC0_P33 ?_; rintro _ w ⟨rfl, h⟩) | (refine stD1_P33 ?_; rintro _ w ⟨rfl, h⟩ <;> refine nowa ?_) | (refine stD2_P33 ?_; rintro _ w (⟨hq1, rfl, h⟩ | ⟨hq2, ⟨u, rfl, h⟩⟩) <;> refine nowa ?_) | (refine x_drawn rfl ?_; have h := h.drew) | refine x_drawn rfl ?_ | fail)
  exact x_ret' is_index_Index_Words rfl (h.pm)

set_option maxHeartbeats 8000000 in
theorem index_Index_Entries_spec {b c d : Nat} {x : IdxM} (hok : IdxOk x) (h : Sat S w (pt b (.cells (idxC (x) c d) T.index_Index (0, 0)) :: isRow c (x).row :: isRow d (x).tk :: G)) :
    Ret Try.prog F.index_Index_Entries #[.pointer (some ⟨b, 0, none⟩)] w (fun v w' => Sat S w' (ownS T.uint64 1 v (ints .u64 (x.allE x.nb)) :: pt b (.cells (idxC (x) c d) T.index_Index (0, 0)) :: isRow c (x).row :: isRow d (x).tk :: G)) := by
  have hs := idx_small hok
  have hl8 := hok.len
  have hrow := isRow_ok h (.there .here)
  refine ret_of is_index_Index_Entries rfl ?_
  repeat' (first | refine stPs ?_ | (refine stC0_P33 ?_; rintro _ w ⟨rfl, h⟩) | (refine stC3_P33 ?_; rintro v w h) | (refine p_cmp rfl rfl rfl rfl (fun hc => ?_) (fun hc => ?_) <;> simp only [cmpProp] at hc) | fail)
  have h := ownS_none (E := T.uint64) (n := 1) h
  refine x_keep [0, 3, 13, 14] rfl ?_
  refine x_loop_inv (fun lm le w => ∃ (i : Nat), ∃ (u : Value), lm = x.nb - i ∧ i ≤ x.nb ∧ le = [(0, .pointer (some ⟨b, 0, none⟩)), (3, u), (13, .int .i64 x.nb), (14, .int .i64 i)] ∧ Sat S w (ownS T.uint64 1 u (ints .u64 (x.allE i)) :: pt b (.cells (idxC (x) c d) T.index_Index (0, 0)) :: isRow c (x).row :: isRow d (x).tk :: G)) (x.nb) ⟨0, _, rfl, by omega, rfl, h⟩ ?_
  clear h
  rintro lm le w ⟨i, u, rfl, hi0, rfl, h⟩ ih
  by_cases hi : i < x.nb
  · have hchz : x.chainZ (i : Int) = x.chain i := by unfold IdxM.chainZ; rw [if_pos ⟨by omega, by omega⟩, Int.toNat_natCast]
    have hcl : (x.chain i).length ≤ x.all + 1 := chainG_length x.lnk (x.all + 1) i
    have hca : ∀ k ∈ x.chain i, k < x.all := chainG_all hok.link (x.all + 1) i (by omega)
    have hae := allE_le hok i
    have hae2 : i * 8000 ≤ 8192000 := by omega
    repeat' (first | refine stPs ?_ | (refine p_cmp rfl rfl rfl rfl (fun hc => ?_) (fun hc => ?_) <;> simp only [cmpProp] at hc) | fail)
    refine p_call rfl rfl (index_Index_Chain_spec (i : Int) hok (h.rf2)) ?_
    rw [hchz]
    rintro v19 w h
    refine p_call rfl rfl (index_slots_spec (x.chain i) (by omega) (fun k hk => by have := hca k hk; omega) h) ?_
    rintro v20 w h
    obtain ⟨sa, sl, sc, rfl, hsl, _⟩ := ownS_slice h .here
    rw [ints_length, natsZ_length, Nat.mul_one] at hsl
    have hslb : sl ≤ 8000 := by rw [← hsl, slotsG_length]; omega
    have hwl : (x.words i).length = sl := by rw [words_length, ← slotsG_length]; exact hsl
    repeat' (first | refine stPs ?_ | (refine p_cmp rfl rfl rfl rfl (fun hc => ?_) (fun hc => ?_) <;> simp only [cmpProp] at hc) | fail)
    refine x_keep [0, 3, 13, 14, 20, 21, 22] rfl ?_
    refine x_loop_inv (fun lm le w => ∃ (j : Nat), ∃ (u : Value), lm = sl - j ∧ j ≤ sl ∧ le = [(0, .pointer (some ⟨b, 0, none⟩)), (3, u), (13, .int .i64 x.nb), (14, .int .i64 i), (20, .slice sa sl sc), (21, .int .i64 sl), (22, .int .i64 j)] ∧ Sat S w (ownS T.uint64 1 u (ints .u64 (x.allE i ++ ((x.words i).take j).filter nz)) :: ownS T.int 1 (.slice sa sl sc) (ints .i64 (natsZ (slotsG (x.chain i)))) :: pt b (.cells (idxC (x) c d) T.index_Index (0, 0)) :: isRow c (x).row :: isRow d (x).tk :: G)) (sl) ⟨0, u, rfl, by omega, rfl, (by simpa using h.pm5)⟩ ?_
    clear h
    rintro lm le w ⟨j, u, rfl, hi0, rfl, h⟩ ih2
    by_cases hj : j < sl
    · obtain ⟨s, hsj⟩ := has_elem (show j < (slotsG (x.chain i)).length by omega)
      have hsm : s < x.row.ws.length := by
        have := hca (s / 8) (mem_slots.1 (List.mem_of_getElem? hsj)).2
        omega
      have hgs : (natsZ (slotsG (x.chain i))).getD j 0 = s := by unfold natsZ; rw [List.getD_eq_getElem?_getD, List.getElem?_map, hsj]; rfl
      have hwj : (x.words i)[j]? = some (x.wd s) := by unfold IdxM.words; rw [List.getElem?_map, hsj]; rfl
      have hld : x.row.load (s : Int) = x.wd s := by rw [RowM.load, if_pos (by omega), Int.toNat_natCast]; rfl
      have hbd : 0 ≤ x.wd s ∧ x.wd s ≤ 18446744073709551615 := RowM.getD_ok hrow s
      obtain ⟨pa, rfl⟩ := ownS_addr (E := T.int) h (.there .here) (by omega)
      have hfn : ((x.words i).take (j + 1)).filter nz = ((x.words i).take j).filter nz ++ if nz (x.wd s) = true then [x.wd s] else [] := by
        rw [take_next hwj, List.filter_append]
        cases hz : nz (x.wd s) <;> simp [hz]
      have hfl : (((x.words i).take j).filter nz).length ≤ 8000 := by
        have h1 := List.length_filter_le nz ((x.words i).take j)
        rw [List.length_take] at h1
        omega
      generalize x.wd s = wv at *
      repeat' (first | (refine gL ?_; refine p_val rfl (g_ldI (i := j) rfl (ownS_rd h (.there .here)) (by omega) (by rw [natsZ_length]; omega)) ?_; rw [hgs]) | (refine gC F.cell_Row_Load ?_; refine p_call rfl rfl (cell_Row_Load_spec _ (h.rf1)) ?_; rw [hld]; rintro _ w ⟨rfl, h⟩) | refine stP ?_ | (refine stC0_P33 ?_; rintro _ w ⟨rfl, h⟩) | (refine stC3_P33 ?_; rintro v w h) | (refine p_cmp rfl rfl rfl rfl (fun hc => ?_) (fun hc => ?_) <;> simp only [cmpProp] at hc) | fail)
      · have hnz : nz wv = true := decide_eq_true (by omega)
        rw [if_pos hnz] at hfn
        refine p_lit [.int .u64 wv] rfl rfl rfl rfl rfl rfl h (fun v w h => ?_)
        repeat' (first | refine stPs ?_ | (refine stC0_P33 ?_; rintro _ w ⟨rfl, h⟩) | (refine stC3_P33 ?_; rintro v w h) | (refine p_cmp rfl rfl rfl rfl (fun hc => ?_) (fun hc => ?_) <;> simp only [cmpProp] at hc) | fail)
        refine p_app rfl rfl rfl rfl (by decide) (h.pick (by repeat first | exact .here | apply Has.there)) (ownS_rd h .here) (by simp [Value.oneCell']) (by rw [ints_length]; simp; omega) (by rw [ints_length]; simp; omega) (fun v3 w h => ?_)
        have e4 : ints .u64 (x.allE i ++ ((x.words i).take j).filter nz) ++ [.int .u64 wv] = ints .u64 (x.allE i ++ ((x.words i).take (j + 1)).filter nz) := by rw [hfn]; simp [ints]
        rw [e4] at h
        repeat' (first | refine stPs ?_ | (refine stC0_P33 ?_; rintro _ w ⟨rfl, h⟩) | (refine stC3_P33 ?_; rintro v w h) | (refine p_cmp rfl rfl rfl rfl (fun hc => ?_) (fun hc => ?_) <;> simp only [cmpProp] at hc) | fail)
        exact x_keep [0, 3, 13, 14, 20, 21, 22] rfl (ih2 _ _ _ (by omega) ⟨j + 1, v3, rfl, by omega, rfl, h.pm5⟩)
      · have hnz : ¬ nz wv = true := fun hx => by have := of_decide_eq_true hx; omega
        rw [if_neg hnz, List.append_nil] at hfn
        rw [← hfn] at h
        exact x_keep [0, 3, 13, 14, 20, 21, 22] rfl (ih2 _ _ _ (by omega) ⟨j + 1, u, rfl, by omega, rfl, h.pm5⟩)
    · obtain rfl : j = sl := by omega
      have e5 : x.allE i ++ ((x.words i).take j).filter nz = x.allE (i + 1) := by
        rw [← hwl, List.take_length]
        unfold IdxM.allE
        rw [List.range_succ, List.flatMap_append]
        simp [IdxM.entries]
      rw [e5] at h
      repeat' (first | refine stPs ?_ | (refine stC0_P33 ?_; rintro _ w ⟨rfl, h⟩) | (refine stC3_P33 ?_; rintro v w h) | (refine p_cmp rfl rfl rfl rfl (fun hc => ?_) (fun hc => ?_) <;> simp only [cmpProp] at hc) | fail)
      exact x_keep [0, 3, 13, 14] rfl (ih _ _ _ (by omega) ⟨i + 1, u, rfl, by omega, rfl, h.pm4⟩)
  · obtain rfl : i = x.nb := by omega
    repeat' (first | refine stPs ?_ | (refine stC0_P33 ?_; rintro _ w ⟨rfl, h⟩) | (refine stC3_P33 ?_; rintro v w h) | (refine p_cmp rfl rfl rfl rfl (fun hc => ?_) (fun hc => ?_) <;> simp only [cmpProp] at hc) | fail)
    exact x_ret' is_index_Index_Entries rfl h

theorem grow_may_spec {b c d : Nat} {x : IdxM} (n : Int) (hok : IdxOk x) (hn : mayN n) (h5 : n ≤ 512) (ha : n ≤ x.all) (h : Sat S w (pt b (.cells (idxC (x) c d) T.index_Index (0, 0)) :: isRow c (x).row :: isRow d (x).tk :: G)) :
    Ret Try.prog F.grow_may #[.pointer (some ⟨b, 0, none⟩), .int .i64 n] w (fun v w' => v = .int .i64 0 ∧ Sat S w' (pt b (.cells (idxC (x) c d) T.index_Index (0, 0)) :: isRow c (x).row :: isRow d (x).tk :: G)) := by
  have hs := idx_small hok
  have hl8 := hok.len
  have hn1 := mayN_le hn
  refine ret_of is_grow_may rfl ?_
  repeat' (first | contradiction | (refine gC F.index_Index_Words ?_; refine p_call rfl rfl (index_Index_Words_spec hok (h.rf3)) ?_; rintro v w h; obtain ⟨va, vl, vc, rfl, hvl, _⟩ := ownS_slice h .here; rw [ints_length, Nat.mul_one, List.length_cons] at hvl) | refine stP ?_ | (refine stC4_P33 ?_; rintro _ w ⟨(⟨rfl, hb⟩ | ⟨rfl, hb⟩), h⟩) | (refine stC0_P33 ?_; rintro _ w ⟨rfl, h⟩) | (refine stC3_P33 ?_; rintro v w h) | (refine p_cmp rfl rfl rfl rfl (fun hc => ?_) (fun hc => ?_) <;> simp only [cmpProp] at hc) | fail)
  all_goals exact x_ret' is_grow_may rfl ⟨rfl, h.pm3⟩

theorem grow_may_nil (n : Int) (h : Sat S w G) : Ret Try.prog F.grow_may #[.pointer none, .int .i64 n] w (fun v w' => v = .int .i64 2 ∧ Sat S w' G) := by
  refine ret_of is_grow_may rfl ?_
  repeat' (first | refine stPs ?_ | (refine stC4_P33 ?_; rintro _ w ⟨(⟨rfl, hb⟩ | ⟨rfl, hb⟩), h⟩) | (refine stC0_P33 ?_; rintro _ w ⟨rfl, h⟩) | (refine stC3_P33 ?_; rintro v w h) | (refine p_cmp rfl rfl rfl rfl (fun hc => ?_) (fun hc => ?_) <;> simp only [cmpProp] at hc) | fail)
  exact x_ret' is_grow_may rfl ⟨rfl, h⟩

set_option maxHeartbeats 8000000 in
theorem grow_words_spec {b c d : Nat} {x : IdxM} (i : Nat) (hok : IdxOk x) (hb : i < x.all) (h : Sat S w (pt b (.cells (idxC x c d) T.index_Index (0, 0)) :: isRow c x.row :: G)) :
    Ret Try.prog F.grow_words #[.pointer (some ⟨b, 0, none⟩), .int .i64 i] w (fun v w' => Sat S w' (ownS T.uint64 1 v (ints .u64 (x.entries i)) :: pt b (.cells (idxC x c d) T.index_Index (0, 0)) :: isRow c x.row :: G)) := by
  have hs := idx_small hok
  have hl8 := hok.len
  have hrow := isRow_ok h (.there .here)
  have hchz : x.chainZ (i : Int) = x.chain i := by unfold IdxM.chainZ; rw [if_pos ⟨by omega, by omega⟩, Int.toNat_natCast]
  have hcl : (x.chain i).length ≤ x.all + 1 := chainG_length x.lnk (x.all + 1) i
  have hca : ∀ k ∈ x.chain i, k < x.all := chainG_all hok.link (x.all + 1) i (by omega)
  have hwl := words_length x i
  refine ret_of is_grow_words rfl ?_
  repeat' (first | refine stPs ?_ | (refine stC0_P33 ?_; rintro _ w ⟨rfl, h⟩) | (refine stC3_P33 ?_; rintro v w h) | (refine p_cmp rfl rfl rfl rfl (fun hc => ?_) (fun hc => ?_) <;> simp only [cmpProp] at hc) | fail)
  rw [hchz] at h
  obtain ⟨va, vl, vc, rfl, hvl, _⟩ := ownS_slice h .here
  rw [ints_length, natsZ_length, Nat.mul_one] at hvl
  repeat' (first | refine stPs ?_ | (refine stC0_P33 ?_; rintro _ w ⟨rfl, h⟩) | (refine stC3_P33 ?_; rintro v w h) | (refine p_cmp rfl rfl rfl rfl (fun hc => ?_) (fun hc => ?_) <;> simp only [cmpProp] at hc) | fail)
  have h := ownS_none (E := T.uint64) (n := 1) h
  refine x_keep [0, 5, 12, 13, 14] rfl ?_
  refine x_loop_inv (fun lm le w => ∃ (k : Nat), ∃ (u : Value), lm = vl - k ∧ k ≤ vl ∧ le = [(0, .pointer (some ⟨b, 0, none⟩)), (5, u), (12, .slice va vl vc), (13, .int .i64 vl), (14, .int .i64 k)] ∧ Sat S w (ownS T.uint64 1 u (ints .u64 (((x.words i).take (k * 7)).filter nz)) :: ownS T.int 1 (.slice va vl vc) (ints .i64 (natsZ (x.chain i))) :: pt b (.cells (idxC x c d) T.index_Index (0, 0)) :: isRow c x.row :: G)) (vl) ⟨0, _, rfl, by omega, rfl, h⟩ ?_
  clear h
  rintro lm le w ⟨k, u, rfl, hi0, rfl, h⟩ ih
  by_cases hk : k < vl
  · obtain ⟨q, hq⟩ := has_elem (show k < (x.chain i).length by omega)
    have hqa := hca q (List.mem_of_getElem? hq)
    have hgq : (natsZ (x.chain i)).getD k 0 = q := by unfold natsZ; rw [List.getD_eq_getElem?_getD, List.getElem?_map, hq]; rfl
    obtain ⟨pa, rfl⟩ := ownS_addr (E := T.int) h (.there .here) (by omega)
    repeat' (first | (refine gL ?_; refine p_val rfl (g_ldI (i := k) rfl (ownS_rd h (.there .here)) (by omega) (by rw [natsZ_length]; omega)) ?_; rw [hgq]) | refine stP ?_ | (refine stC0_P33 ?_; rintro _ w ⟨rfl, h⟩) | (refine stC3_P33 ?_; rintro v w h) | (refine p_cmp rfl rfl rfl rfl (fun hc => ?_) (fun hc => ?_) <;> simp only [cmpProp] at hc) | fail)
    refine x_keep [0, 5, 7, 12, 13, 14, 18] rfl ?_
    refine x_loop_inv (fun lm le w => ∃ (j : Nat), ∃ (u : Value), lm = 7 - j ∧ j ≤ 7 ∧ le = [(0, .pointer (some ⟨b, 0, none⟩)), (5, u), (7, .int .i64 q), (12, .slice (some ⟨pa, 0, none⟩) vl vc), (13, .int .i64 vl), (14, .int .i64 k), (18, .int .i64 j)] ∧ Sat S w (ownS T.uint64 1 u (ints .u64 (((x.words i).take (k * 7 + j)).filter nz)) :: ownS T.int 1 (.slice (some ⟨pa, 0, none⟩) vl vc) (ints .i64 (natsZ (x.chain i))) :: pt b (.cells (idxC x c d) T.index_Index (0, 0)) :: isRow c x.row :: G)) (7) ⟨0, u, rfl, by omega, rfl, h⟩ ?_
    clear h
    rintro lm le w ⟨j, u, rfl, hi0, rfl, h⟩ ih2
    by_cases hj : j < 7
    · have hwj : (x.words i)[k * 7 + j]? = some (x.wd (q * 8 + j)) := by
        unfold IdxM.words
        rw [List.getElem?_map, slots_get hq hj]
        rfl
      have hfn : ((x.words i).take (k * 7 + (j + 1))).filter nz = ((x.words i).take (k * 7 + j)).filter nz ++ if nz (x.wd (q * 8 + j)) = true then [x.wd (q * 8 + j)] else [] := by
        rw [show k * 7 + (j + 1) = k * 7 + j + 1 from rfl, take_next hwj, List.filter_append]
        cases hz : nz (x.wd (q * 8 + j)) <;> simp [hz]
      have hbd : 0 ≤ x.wd (q * 8 + j) ∧ x.wd (q * 8 + j) ≤ 18446744073709551615 := RowM.getD_ok hrow _
      have hld : (if slotP x ((q : Int) * 8 + j) then x.row.load ((q : Int) * 8 + j) else 0) = x.wd (q * 8 + j) := by
        rw [if_pos ⟨by omega, by omega, by omega⟩, RowM.load, if_pos (by omega), show ((q : Int) * 8 + j).toNat = q * 8 + j by omega]
        rfl
      have hfl : (((x.words i).take (k * 7 + j)).filter nz).length ≤ 8000 := by
        have h1 := List.length_filter_le nz ((x.words i).take (k * 7 + j))
        rw [List.length_take] at h1
        omega
      generalize x.wd (q * 8 + j) = wv at *
      repeat' (first | (refine gC F.index_Index_Load ?_; refine p_call rfl rfl (index_Index_Load_spec ((q : Int) * 8 + j) (h.rf2)) ?_; rw [hld]; rintro _ w ⟨rfl, h⟩) | refine stP ?_ | (refine stC0_P33 ?_; rintro _ w ⟨rfl, h⟩) | (refine stC3_P33 ?_; rintro v w h) | (refine p_cmp rfl rfl rfl rfl (fun hc => ?_) (fun hc => ?_) <;> simp only [cmpProp] at hc) | fail)
      · have hnz : nz wv = true := decide_eq_true (by omega)
        rw [if_pos hnz] at hfn
        refine p_lit [.int .u64 wv] rfl rfl rfl rfl rfl rfl h (fun v w h => ?_)
        repeat' (first | refine stPs ?_ | (refine stC0_P33 ?_; rintro _ w ⟨rfl, h⟩) | (refine stC3_P33 ?_; rintro v w h) | (refine p_cmp rfl rfl rfl rfl (fun hc => ?_) (fun hc => ?_) <;> simp only [cmpProp] at hc) | fail)
        refine p_app rfl rfl rfl rfl (by decide) (h.pick (by repeat first | exact .here | apply Has.there)) (ownS_rd h .here) (by simp [Value.oneCell']) (by rw [ints_length]; simp; omega) (by rw [ints_length]; simp; omega) (fun v3 w h => ?_)
        have e4 : ints .u64 (((x.words i).take (k * 7 + j)).filter nz) ++ [.int .u64 wv] = ints .u64 (((x.words i).take (k * 7 + (j + 1))).filter nz) := by rw [hfn]; simp [ints]
        rw [e4] at h
        repeat' (first | refine stPs ?_ | (refine stC0_P33 ?_; rintro _ w ⟨rfl, h⟩) | (refine stC3_P33 ?_; rintro v w h) | (refine p_cmp rfl rfl rfl rfl (fun hc => ?_) (fun hc => ?_) <;> simp only [cmpProp] at hc) | fail)
        exact x_keep [0, 5, 7, 12, 13, 14, 18] rfl (ih2 _ _ _ (by omega) ⟨j + 1, v3, rfl, by omega, rfl, h.pm4⟩)
      · have hnz : ¬ nz wv = true := fun hx => by have := of_decide_eq_true hx; omega
        rw [if_neg hnz, List.append_nil] at hfn
        rw [← hfn] at h
        exact x_keep [0, 5, 7, 12, 13, 14, 18] rfl (ih2 _ _ _ (by omega) ⟨j + 1, u, rfl, by omega, rfl, h.pm4⟩)
    · obtain rfl : j = 7 := by omega
      repeat' (first | refine stPs ?_ | (refine stC0_P33 ?_; rintro _ w ⟨rfl, h⟩) | (refine stC3_P33 ?_; rintro v w h) | (refine p_cmp rfl rfl rfl rfl (fun hc => ?_) (fun hc => ?_) <;> simp only [cmpProp] at hc) | fail)
      rw [← Nat.succ_mul] at h
      exact x_keep [0, 5, 12, 13, 14] rfl (ih _ _ _ (by omega) ⟨k + 1, u, rfl, by omega, rfl, h⟩)
  · obtain rfl : k = vl := by omega
    repeat' (first | refine stPs ?_ | (refine stC0_P33 ?_; rintro _ w ⟨rfl, h⟩) | (refine stC3_P33 ?_; rintro v w h) | (refine p_cmp rfl rfl rfl rfl (fun hc => ?_) (fun hc => ?_) <;> simp only [cmpProp] at hc) | fail)
    rw [← hvl, ← hwl, List.take_length] at h
    exact x_ret' is_grow_words rfl (h.pm)

theorem grow_number_spec (t : Int) (i : Nat) (t0 : 0 ≤ t) (t1 : t ≤ 16383) (hi : i < 2000) (h : Sat S w G) :
    Ret Try.prog F.grow_number #[.int .u64 t, .int .i64 i] w (fun v w' => v = .int .u64 (t * 1125899906842624 + i) ∧ Sat S w' G) := by
  have e : putV (i : Int) 50 14 t = (t * 1125899906842624 + i, 0) := by
    rw [putV_next (by decide) (by omega) (by show (i : Int) < 1125899906842624; omega) (by show t ≤ 16383; omega)]
    congr 1
    show (i : Int) + t * 1125899906842624 = _
    omega
  refine ret_of is_grow_number rfl ?_
  repeat' (first | (refine gC F.field_Put ?_; refine p_call rfl rfl (field_Put_spec _ _ _ _ (by omega) (by omega) t0 h) ?_; rw [e]; rintro _ w ⟨rfl, h⟩) | refine stP ?_ | (refine stC0_P33 ?_; rintro _ w ⟨rfl, h⟩) | fail)
  exact x_ret' is_grow_number rfl ⟨rfl, h⟩
end
end Go.Proofs.Ytmlkeackapflhaa
