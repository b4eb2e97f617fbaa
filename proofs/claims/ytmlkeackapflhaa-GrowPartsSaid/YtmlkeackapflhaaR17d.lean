/- The document's answers of layer 17: entries, drops. -/
import Derived.Test.YtmlkeackapflhaaHxS
import Derived.Test.YtmlkeackapflhaaR17
import Derived.Test.YtmlkeackapflhaaP17d
namespace Go.Proofs.Ytmlkeackapflhaa
open Go Go.HX
attribute [local irreducible] Ret XRun XOps XDr XOne Does Gives
set_option maxRecDepth 4000
set_option maxHeartbeats 1000000
theorem stC0_R17d {goal next : Prop} (k : next) (hs : Hid next → goal := by (intro k; (first | (refine gC F.ref17_Index_Chain ?_; refine p_call rfl rfl (ref17_Index_Chain_spec _ ?_ (h.rf2)) ?_; iterate 1 (first | assumption | omega | (simp only []; omega) | decide)) | (refine gC F.ref17_Index_Entries ?_; refine p_call rfl rfl (ref17_Index_Entries_spec _ ?_ ?_ (h.rf2)) ?_; iterate 2 (first | assumption | omega | (simp only []; omega) | decide)) | fail); exact k.out)) : goal := hs ⟨k⟩
theorem stC1_R17d {goal next : Prop} (k : next) (hs : Hid next → goal := by (intro k; (first | (refine gS ?_; (first | refine p_do rfl (d_stwL rfl rfl rfl rfl rfl (h.pick (by repeat first | exact .here | apply Has.there)) (by first | (dsimp only [Value.cells]; done) | exact rfl)) ?_ | refine p_do rfl (d_stL rfl rfl rfl (h.pick (by repeat first | exact .here | apply Has.there)) (by first | exact of_decide_eq_true rfl | simp) (by first | (dsimp only [List.set]; done) | exact rfl)) ?_)) | fail); exact k.out)) : goal := hs ⟨k⟩
theorem stD2_R17d {goal next : Prop} (k : next) (hs : Hid next → goal := by (intro k; (first | (refine gSR ?_; (first | refine r_do rfl rfl (d_stwL rfl rfl rfl rfl rfl (h.pick (by repeat first | exact .here | apply Has.there)) (by first | (dsimp only [Value.cells]; done) | exact rfl)) ?_ | refine r_do rfl rfl (d_stL rfl rfl rfl (h.pick (by repeat first | exact .here | apply Has.there)) (by first | exact of_decide_eq_true rfl | simp) (by first | (dsimp only [List.set]; done) | exact rfl)) ?_)) | fail); exact k.out)) : goal := hs ⟨k⟩
def nz (w : Int) : Bool := decide (w ≠ 0)
def IdxM.entries (x : IdxM) (b : Nat) : List Int := (x.words b).filter nz
section
variable {S : SP} {w : World} {G : List HProp}

set_option maxHeartbeats 4000000 in
theorem ref17_Index_Entries_spec {m q len cap : Nat} {x : IdxM} (b : Nat) (hok : RefOk x) (hb : b < x.all) (h : Sat S w (pt m (.cells (refC (x) (.slice (some ⟨q, 0, none⟩) len cap)) T.haycroftref17_Index (0, 0)) :: ownS T.arr_8_uint64 8 (.slice (some ⟨q, 0, none⟩) len cap) (ints .u64 (x).row.ws) :: G)) :
    Ret Try.prog F.ref17_Index_Entries #[.pointer (some ⟨m, 0, none⟩), .int .i64 b] w (fun v w' => Sat S w' (ownS T.uint64 1 v (ints .u64 (x.entries b)) :: pt m (.cells (refC (x) (.slice (some ⟨q, 0, none⟩) len cap)) T.haycroftref17_Index (0, 0)) :: ownS T.arr_8_uint64 8 (.slice (some ⟨q, 0, none⟩) len cap) (ints .u64 (x).row.ws) :: G)) := by
  refine ret_of is_ref17_Index_Entries rfl ?_
  have hs := idx_small hok.ok
  have hl8 := hok.ok.len
  have hll := (ownS_rd h (.there .here)).len.1
  rw [ints_length] at hll
  have hchz : x.chainZ (b : Int) = x.chain b := by unfold IdxM.chainZ; rw [if_pos ⟨by omega, by omega⟩, Int.toNat_natCast]
  have hcl : (x.chain b).length ≤ x.all + 1 := chainG_length x.lnk (x.all + 1) b
  have hca : ∀ k ∈ x.chain b, k < x.all := chainG_all hok.ok.link (x.all + 1) b hb
  have hwl : (x.words b).length = (x.chain b).length * 7 := by unfold IdxM.words; rw [List.length_map, slotsG_length]
  repeat' (first | refine stPs ?_ | (refine stC0_R17d ?_; rintro v w h) | (refine p_cmp rfl rfl rfl rfl (fun hc => ?_) (fun hc => ?_) <;> simp only [cmpProp] at hc) | (refine r_cmp rfl rfl rfl rfl rfl (fun hc => ?_) (fun hc => ?_) <;> simp only [cmpProp] at hc) | (refine x_drawn rfl ?_; have h := h.drew) | refine x_drawn rfl ?_ | fail)
  refine p_lit [] rfl rfl rfl rfl rfl rfl h (fun v w h => ?_)
  repeat' (first | refine stPs ?_ | (refine stC0_R17d ?_; rintro v w h) | (refine p_cmp rfl rfl rfl rfl (fun hc => ?_) (fun hc => ?_) <;> simp only [cmpProp] at hc) | (refine r_cmp rfl rfl rfl rfl rfl (fun hc => ?_) (fun hc => ?_) <;> simp only [cmpProp] at hc) | (refine x_drawn rfl ?_; have h := h.drew) | refine x_drawn rfl ?_ | fail)
  rw [hchz] at h
  obtain ⟨va, vl, vc, rfl, hvl, _⟩ := ownS_slice h .here
  rw [ints_length, natsZ_length, Nat.mul_one] at hvl
  refine x_keep [0, 5, 6, 7] rfl ?_
  refine x_loop_inv (fun lm le w => ∃ (i : Nat), ∃ (u : Value), lm = vl - i ∧ i ≤ vl ∧ le = [(0, .pointer (some ⟨m, 0, none⟩)), (5, u), (6, .slice va vl vc), (7, .int .i64 i)] ∧ Sat S w (ownS T.uint64 1 u (ints .u64 (((x.words b).take (i * 7)).filter nz)) :: ownS T.int 1 (.slice va vl vc) (ints .i64 (natsZ (x.chain b))) :: pt m (.cells (refC (x) (.slice (some ⟨q, 0, none⟩) len cap)) T.haycroftref17_Index (0, 0)) :: ownS T.arr_8_uint64 8 (.slice (some ⟨q, 0, none⟩) len cap) (ints .u64 (x).row.ws) :: G)) (vl) ⟨0, v, rfl, by omega, rfl, h.pm4⟩ ?_
  clear h
  rintro lm le w ⟨i, u, rfl, hi0, rfl, h⟩ ih
  by_cases hi : i < vl
  · obtain ⟨k, hk⟩ := has_elem (show i < (x.chain b).length by omega)
    have hka := hca k (List.mem_of_getElem? hk)
    have hgk : (natsZ (x.chain b)).getD i 0 = k := by unfold natsZ; rw [List.getD_eq_getElem?_getD, List.getElem?_map, hk]; rfl
    obtain ⟨pa, rfl⟩ := ownS_addr (E := T.int) h (.there .here) (by omega)
    repeat' (first | refine stPs ?_ | (refine stC0_R17d ?_; rintro v w h) | (refine p_cmp rfl rfl rfl rfl (fun hc => ?_) (fun hc => ?_) <;> simp only [cmpProp] at hc) | (refine r_cmp rfl rfl rfl rfl rfl (fun hc => ?_) (fun hc => ?_) <;> simp only [cmpProp] at hc) | (refine x_drawn rfl ?_; have h := h.drew) | refine x_drawn rfl ?_ | fail)
    refine x_keep [0, 5, 6, 7, 8] rfl ?_
    refine x_loop_inv (fun lm le w => ∃ (j : Nat), ∃ (u : Value), lm = 7 - j ∧ j ≤ 7 ∧ le = [(0, .pointer (some ⟨m, 0, none⟩)), (5, u), (6, .slice (some ⟨pa, 0, none⟩) vl vc), (7, .int .i64 i), (8, .int .i64 j)] ∧ Sat S w (ownS T.uint64 1 u (ints .u64 (((x.words b).take (i * 7 + j)).filter nz)) :: ownS T.int 1 (.slice (some ⟨pa, 0, none⟩) vl vc) (ints .i64 (natsZ (x.chain b))) :: pt m (.cells (refC (x) (.slice (some ⟨q, 0, none⟩) len cap)) T.haycroftref17_Index (0, 0)) :: ownS T.arr_8_uint64 8 (.slice (some ⟨q, 0, none⟩) len cap) (ints .u64 (x).row.ws) :: G)) (7) ⟨0, u, rfl, by omega, rfl, h⟩ ?_
    clear h
    rintro lm le w ⟨j, u, rfl, hi0, rfl, h⟩ ih2
    by_cases hj : j < 7
    · have hwj : (x.words b)[i * 7 + j]? = some (x.wd (k * 8 + j)) := by
        unfold IdxM.words
        rw [List.getElem?_map, slots_get hk hj]
        rfl
      have htn := take_next hwj
      have hfn : ((x.words b).take (i * 7 + (j + 1))).filter nz = ((x.words b).take (i * 7 + j)).filter nz ++ if nz (x.wd (k * 8 + j)) = true then [x.wd (k * 8 + j)] else [] := by
        rw [show i * 7 + (j + 1) = i * 7 + j + 1 from rfl, htn, List.filter_append]
        cases hz : nz (x.wd (k * 8 + j)) <;> simp [hz]
      have hbd : 0 ≤ x.wd (k * 8 + j) ∧ x.wd (k * 8 + j) ≤ 18446744073709551615 := hok.bnd _
      have hwv : x.row.ws.getD (k * 8 + j) 0 = x.wd (k * 8 + j) := rfl
      have hlt : k * 8 + j < x.row.ws.length := by omega
      have hfl : (((x.words b).take (i * 7 + j)).filter nz).length ≤ 8000 := by
        have h1 := List.length_filter_le nz ((x.words b).take (i * 7 + j))
        rw [List.length_take] at h1
        omega
      generalize x.wd (k * 8 + j) = wv at *
      repeat' (first | (refine gLR ?_; first | (refine r_own rfl rfl rfl h (fun w h => g_ldI (i := i) rfl (ownS_rd h (.there .here)) (by omega) (by rw [natsZ_length]; omega)) ?_; rw [hgk]) | (refine r_own rfl rfl rfl h (fun w h => g_ldN (i := k * 8 + j) rfl (ownS_rd h (.there (.there (.there .here)))) (by omega) (by omega)) ?_; rw [hwv])) | refine stP ?_ | (refine stC0_R17d ?_; rintro v w h) | (refine p_cmp rfl rfl rfl rfl (fun hc => ?_) (fun hc => ?_) <;> simp only [cmpProp] at hc) | (refine r_cmp rfl rfl rfl rfl rfl (fun hc => ?_) (fun hc => ?_) <;> simp only [cmpProp] at hc) | (refine x_drawn rfl ?_; have h := h.drew) | refine x_drawn rfl ?_ | fail)
      · have hnz : nz wv = true := decide_eq_true (by omega)
        rw [if_pos hnz] at hfn
        refine r_do rfl rfl (d_lit [.int .u64 wv] rfl rfl rfl rfl rfl h) ?_
        intro v2 w h
        refine nowa ?_
        refine r_do rfl rfl (d_appR rfl rfl rfl (by decide) (h.pick (.there .here)) (ownS_rd h .here) (by simp [Value.oneCell']) (by rw [ints_length]; simp; omega) (by rw [ints_length]; simp; omega)) ?_
        intro v3 w h
        refine nowa ?_
        have e4 : ints .u64 (((x.words b).take (i * 7 + j)).filter nz) ++ [.int .u64 wv] = ints .u64 (((x.words b).take (i * 7 + (j + 1))).filter nz) := by rw [hfn]; simp [ints]
        rw [e4] at h
        repeat' (first | refine stPs ?_ | (refine stC0_R17d ?_; rintro v w h) | (refine p_cmp rfl rfl rfl rfl (fun hc => ?_) (fun hc => ?_) <;> simp only [cmpProp] at hc) | (refine r_cmp rfl rfl rfl rfl rfl (fun hc => ?_) (fun hc => ?_) <;> simp only [cmpProp] at hc) | (refine x_drawn rfl ?_; have h := h.drew) | refine x_drawn rfl ?_ | fail)
        exact x_keep [0, 5, 6, 7, 8] rfl (ih2 _ _ _ (by omega) ⟨j + 1, v3, rfl, by omega, rfl, h.pm4⟩)
      · have hnz : ¬ nz wv = true := fun hx => by have := of_decide_eq_true hx; omega
        rw [if_neg hnz, List.append_nil] at hfn
        rw [← hfn] at h
        exact x_keep [0, 5, 6, 7, 8] rfl (ih2 _ _ _ (by omega) ⟨j + 1, u, rfl, by omega, rfl, h.pm4⟩)
    · obtain rfl : j = 7 := by omega
      repeat' (first | refine stPs ?_ | (refine stC0_R17d ?_; rintro v w h) | (refine p_cmp rfl rfl rfl rfl (fun hc => ?_) (fun hc => ?_) <;> simp only [cmpProp] at hc) | (refine r_cmp rfl rfl rfl rfl rfl (fun hc => ?_) (fun hc => ?_) <;> simp only [cmpProp] at hc) | (refine x_drawn rfl ?_; have h := h.drew) | refine x_drawn rfl ?_ | fail)
      rw [← Nat.succ_mul] at h
      exact x_keep [0, 5, 6, 7] rfl (ih _ _ _ (by omega) ⟨i + 1, u, rfl, by omega, rfl, h⟩)
  · obtain rfl : i = vl := by omega
    repeat' (first | refine stPs ?_ | (refine stC0_R17d ?_; rintro v w h) | (refine p_cmp rfl rfl rfl rfl (fun hc => ?_) (fun hc => ?_) <;> simp only [cmpProp] at hc) | (refine r_cmp rfl rfl rfl rfl rfl (fun hc => ?_) (fun hc => ?_) <;> simp only [cmpProp] at hc) | (refine x_drawn rfl ?_; have h := h.drew) | refine x_drawn rfl ?_ | fail)
    rw [← hvl, ← hwl, List.take_length] at h
    exact x_ret' is_ref17_Index_Entries rfl (h.pm)

theorem fresh_bit {w : Int} (h0 : w ≠ 0) (he : (unpackE w).2 = 0) : freshP w = decide (w / 4611686018427387904 % 2 = 1) := by
  unfold freshP
  unfold unpackE at he ⊢
  rw [if_neg h0] at he ⊢
  split at he
  · cases he
  · rename_i hn
    rw [if_neg hn]
    unfold entOf
    simp
theorem fresh_ne {w : Int} (h : freshP w = true) : w ≠ 0 := by
  rintro rfl
  exact absurd h (by decide)
theorem rest_entries (x : IdxM) (b : Nat) : x.rest b = (x.entries b).filter keepW := by
  unfold IdxM.rest IdxM.entries
  rw [List.filter_filter]
  congr 1
  funext w
  unfold keepW nz
  cases decide (w ≠ 0) <;> simp
theorem gone_entries (x : IdxM) (b : Nat) : x.goneB b = ((x.entries b).filter freshP).length := by
  unfold IdxM.goneB IdxM.entries
  rw [List.filter_filter]
  congr 2
  funext w
  unfold nz
  cases hf : freshP w
  · simp
  · simp [fresh_ne hf]
/-- The place in a bucket, as it is counted. -/
def kOf (n : Nat) : Nat := if n ≠ 0 ∧ n % 7 = 0 then 7 else n % 7

set_option maxHeartbeats 8000000 in
theorem ref17_Index_Drop_spec {m q len cap : Nat} {x : IdxM} (hok : RefOk x) (hcap : x.laid.2 ≤ x.sp) (hent : ∀ s, s % 8 < 7 → x.wd s = 0 ∨ (unpackE (x.wd s)).2 = 0) (h : Sat S w (pt m (.cells (refC (x) (.slice (some ⟨q, 0, none⟩) len cap)) T.haycroftref17_Index (0, 0)) :: ownS T.arr_8_uint64 8 (.slice (some ⟨q, 0, none⟩) len cap) (ints .u64 (x).row.ws) :: G)) :
    Ret Try.prog F.ref17_Index_Drop #[.pointer (some ⟨m, 0, none⟩)] w (fun v w' => v = .int .i64 (x.gone x.nb) ∧ ∃ q len cap, Sat S w' (pt m (.cells (refC (x.drop) (.slice (some ⟨q, 0, none⟩) len cap)) T.haycroftref17_Index (0, 0)) :: ownS T.arr_8_uint64 8 (.slice (some ⟨q, 0, none⟩) len cap) (ints .u64 (x.drop).row.ws) :: G)) := by
  refine ret_of is_ref17_Index_Drop rfl ?_
  have hs := idx_small hok.ok
  have hsp := hok.ok.sp
  have hl8 := hok.ok.len
  have hll := (ownS_rd h (.there .here)).len.1
  rw [ints_length] at hll
  repeat' (first | refine stPs ?_ | (refine stC0_R17d ?_; rintro v w h) | (refine stC1_R17d ?_; rintro _ w ⟨rfl, h⟩) | (refine stD2_R17d ?_; rintro _ w ⟨rfl, h⟩ <;> refine nowa ?_) | (refine p_cmp rfl rfl rfl rfl (fun hc => ?_) (fun hc => ?_) <;> simp only [cmpProp] at hc) | (refine r_cmp rfl rfl rfl rfl rfl (fun hc => ?_) (fun hc => ?_) <;> simp only [cmpProp] at hc) | (refine x_drawn rfl ?_; have h := h.drew) | refine x_drawn rfl ?_ | fail)
  refine p_mkN (n := len) (sz := 8) (kd := .u64) rfl rfl rfl (by omega) (by omega) (by omega) h (fun v w h => ?_)
  obtain ⟨ya, yl, yc, rfl, hyl, _⟩ := ownS_slice h .here
  rw [ints_length, List.length_replicate] at hyl
  obtain ⟨yp, rfl⟩ := ownS_addr h .here (by omega)
  rw [← hll] at h
  repeat' (first | refine stPs ?_ | (refine stC0_R17d ?_; rintro v w h) | (refine stC1_R17d ?_; rintro _ w ⟨rfl, h⟩) | (refine stD2_R17d ?_; rintro _ w ⟨rfl, h⟩ <;> refine nowa ?_) | (refine p_cmp rfl rfl rfl rfl (fun hc => ?_) (fun hc => ?_) <;> simp only [cmpProp] at hc) | (refine r_cmp rfl rfl rfl rfl rfl (fun hc => ?_) (fun hc => ?_) <;> simp only [cmpProp] at hc) | (refine x_drawn rfl ?_; have h := h.drew) | refine x_drawn rfl ?_ | fail)
  have hrl : x.rests.length = x.nb := by unfold IdxM.rests; simp
  have hlaid : x.laid = layAll x.nb (List.replicate x.row.ws.length 0, 0) 0 x.rests := rfl
  have hlt0 : ∀ i, i ≤ x.nb → (layAll x.nb (List.replicate x.row.ws.length 0, 0) 0 (x.rests.take i)).2 ≤ x.sp := fun i hi => by
    refine Nat.le_trans ?_ hcap
    rw [hlaid, ← List.take_append_drop i x.rests, layAll_append, List.take_append_drop]
    exact layAll_mono
  have hll0 : ∀ i, (layAll x.nb (List.replicate x.row.ws.length 0, 0) 0 (x.rests.take i)).1.length = x.row.ws.length := fun i => by rw [layAll_length, List.length_replicate]
  refine x_keep [0, 3, 4, 5, 6] rfl ?_
  refine x_loop_inv (fun lm le w => ∃ (b : Nat), ∃ (g : Nat), ∃ (st : List Int × Nat), lm = x.nb - b ∧ b ≤ x.nb ∧ g = x.gone b ∧ st = layAll x.nb (List.replicate x.row.ws.length 0, 0) 0 (x.rests.take b) ∧ le = [(0, .pointer (some ⟨m, 0, none⟩)), (3, .int .i64 g), (4, .slice (some ⟨yp, 0, none⟩) yl yc), (5, .int .i64 st.2), (6, .int .i64 b)] ∧ Sat S w (ownS T.arr_8_uint64 8 (.slice (some ⟨yp, 0, none⟩) yl yc) (ints .u64 st.1) :: pt m (.cells (refC (x) (.slice (some ⟨q, 0, none⟩) len cap)) T.haycroftref17_Index (0, 0)) :: ownS T.arr_8_uint64 8 (.slice (some ⟨q, 0, none⟩) len cap) (ints .u64 (x).row.ws) :: G)) (x.nb) ⟨0, 0, (List.replicate x.row.ws.length 0, 0), rfl, by omega, rfl, rfl, rfl, h.pm3⟩ ?_
  clear h
  rintro lm le w ⟨b, g, st, rfl, hi0, hi1, hi2, rfl, h⟩ ih
  by_cases hb : b < x.nb
  · have hgo := gone_le hok.ok (show b ≤ x.nb by omega)
    have hr : x.rests[b]? = some (x.rest b) := by
      unfold IdxM.rests
      rw [List.getElem?_map, List.getElem?_range hb]
      rfl
    have hbl : (x.rests.take b).length = b := by rw [List.length_take]; omega
    have hst1 : layAll x.nb (List.replicate x.row.ws.length 0, 0) 0 (x.rests.take (b + 1)) = ((layR x.nb (st.1, st.2, b) 0 (x.rest b)).1, (layR x.nb (st.1, st.2, b) 0 (x.rest b)).2.1) := by
      rw [take_next hr, layAll_append, ← hi2, hbl, Nat.zero_add]
      rfl
    have hcp := hlt0 (b + 1) (by omega)
    rw [hst1] at hcp
    have hsl := hll0 b
    rw [← hi2] at hsl
    have hel : (x.entries b).length ≤ 8000 := by
      unfold IdxM.entries
      have h1 := List.length_filter_le nz (x.words b)
      have h2 : (x.words b).length = (x.chain b).length * 7 := by unfold IdxM.words; rw [List.length_map, slotsG_length]
      have h3 : (x.chain b).length ≤ x.all + 1 := chainG_length x.lnk (x.all + 1) b
      omega
    have hee : ∀ w ∈ x.entries b, w ≠ 0 ∧ (unpackE w).2 = 0 ∧ 0 ≤ w ∧ w ≤ 18446744073709551615 := fun w hw => by
      unfold IdxM.entries IdxM.words at hw
      obtain ⟨h1, h2⟩ := List.mem_filter.1 hw
      obtain ⟨s, hs, rfl⟩ := List.mem_map.1 h1
      have h3 : x.wd s ≠ 0 := of_decide_eq_true h2
      rcases hent s (mem_slots.1 hs).1 with h4 | h4
      · exact absurd h4 h3
      · exact ⟨h3, h4, (hok.bnd s).1, (hok.bnd s).2⟩
    repeat' (first | refine stPs ?_ | (refine stC0_R17d ?_; rintro v w h) | (refine stC1_R17d ?_; rintro _ w ⟨rfl, h⟩) | (refine stD2_R17d ?_; rintro _ w ⟨rfl, h⟩ <;> refine nowa ?_) | (refine p_cmp rfl rfl rfl rfl (fun hc => ?_) (fun hc => ?_) <;> simp only [cmpProp] at hc) | (refine r_cmp rfl rfl rfl rfl rfl (fun hc => ?_) (fun hc => ?_) <;> simp only [cmpProp] at hc) | (refine x_drawn rfl ?_; have h := h.drew) | refine x_drawn rfl ?_ | fail)
    obtain ⟨ea, el, ec, rfl, hel2, _⟩ := ownS_slice h .here
    rw [ints_length, Nat.mul_one] at hel2
    refine x_keep [0, 3, 4, 5, 6, 7, 8, 9, 10] rfl ?_
    refine x_loop_inv (fun lm le w => ∃ (i : Nat), ∃ (g : Nat), ∃ (s3 : List Int × Nat × Nat), ∃ (kp : List Int), lm = el - i ∧ i ≤ el ∧ g = x.gone b + (((x.entries b).take i).filter freshP).length ∧ kp = ((x.entries b).take i).filter keepW ∧ s3 = layR x.nb (st.1, st.2, b) 0 kp ∧ s3.2.2 < x.nb + s3.2.1 ∧ le = [(0, .pointer (some ⟨m, 0, none⟩)), (3, .int .i64 g), (4, .slice (some ⟨yp, 0, none⟩) yl yc), (5, .int .i64 s3.2.1), (6, .int .i64 b), (7, .slice ea el ec), (8, .int .i64 s3.2.2), (9, .int .i64 (kOf kp.length)), (10, .int .i64 i)] ∧ Sat S w (ownS T.uint64 1 (.slice ea el ec) (ints .u64 (x.entries b)) :: ownS T.arr_8_uint64 8 (.slice (some ⟨yp, 0, none⟩) yl yc) (ints .u64 s3.1) :: pt m (.cells (refC (x) (.slice (some ⟨q, 0, none⟩) len cap)) T.haycroftref17_Index (0, 0)) :: ownS T.arr_8_uint64 8 (.slice (some ⟨q, 0, none⟩) len cap) (ints .u64 (x).row.ws) :: G)) (el) ⟨0, g, (st.1, st.2, b), [], rfl, by omega, hi1, rfl, rfl, (Nat.lt_of_lt_of_le hb (Nat.le_add_right _ _)), rfl, h.pm4⟩ ?_
    clear h
    rintro lm le w ⟨i, g, s3, kp, rfl, hi0, hi1, hi2, hi3, hi4, rfl, h⟩ ih2
    by_cases hi : i < el
    · obtain ⟨y, hy⟩ := has_elem (show i < (x.entries b).length by omega)
      obtain ⟨y1, y2, y3, y4⟩ := hee y (List.mem_of_getElem? hy)
      have hgy : (x.entries b).getD i 0 = y := by rw [List.getD_eq_getElem?_getD, hy]; rfl
      have hfb := fresh_bit y1 y2
      have htn := take_next hy
      have hgf : (((x.entries b).take (i + 1)).filter freshP).length = (((x.entries b).take i).filter freshP).length + if freshP y = true then 1 else 0 := by
        rw [htn, List.filter_append, List.length_append]
        cases hfq : freshP y <;> simp [hfq]
      have hgl : (((x.entries b).take i).filter freshP).length ≤ i := by
        have h1 := List.length_filter_le freshP ((x.entries b).take i)
        rw [List.length_take] at h1
        omega
      have hkf : ((x.entries b).take (i + 1)).filter keepW = kp ++ if keepW y = true then [y] else [] := by
        rw [htn, List.filter_append, ← hi2]
        cases hfq : keepW y <;> simp [hfq]
      have hkw : keepW y = !freshP y := by unfold keepW; rw [decide_eq_true y1]; rfl
      obtain ⟨pe, rfl⟩ := ownS_addr (E := T.uint64) h .here (by omega)
      by_cases hbit : y / 4611686018427387904 % 2 = 1
      · rw [decide_eq_true hbit] at hfb
        rw [hfb] at hgf hkw
        rw [hkw] at hkf
        simp only [Bool.not_true, Bool.false_eq_true, if_false, List.append_nil, if_true] at hgf hkf
        repeat' (first | (refine gL ?_; refine p_val rfl (g_ldI (i := i) rfl (ownS_rd h .here) (by omega) (by omega)) ?_; rw [hgy]) | refine stP ?_ | (refine stC0_R17d ?_; rintro v w h) | (refine stC1_R17d ?_; rintro _ w ⟨rfl, h⟩) | (refine stD2_R17d ?_; rintro _ w ⟨rfl, h⟩ <;> refine nowa ?_) | (refine p_cmp rfl rfl rfl rfl (fun hc => ?_) (fun hc => ?_) <;> simp only [cmpProp] at hc) | (refine r_cmp rfl rfl rfl rfl rfl (fun hc => ?_) (fun hc => ?_) <;> simp only [cmpProp] at hc) | (refine x_drawn rfl ?_; have h := h.drew) | refine x_drawn rfl ?_ | fail)
        exact x_keep [0, 3, 4, 5, 6, 7, 8, 9, 10] rfl (ih2 _ _ _ (by omega) ⟨i + 1, g + 1, s3, kp, rfl, by omega, by omega, hkf.symm, hi3, hi4, rfl, h⟩)
      · rw [decide_eq_false hbit] at hfb
        rw [hfb] at hgf hkw
        rw [hkw] at hkf
        simp only [Bool.not_false, Bool.false_eq_true, if_false, if_true, Nat.add_zero] at hgf hkf
        have hput : layR x.nb (st.1, st.2, b) 0 (kp ++ [y]) = putW x.nb s3 kp.length y := by
          rw [layR_append, ← hi3, Nat.zero_add]
          rfl
        have hcp2 : (putW x.nb s3 kp.length y).2.1 ≤ x.sp := by
          rw [← hput, ← hkf]
          refine Nat.le_trans ?_ hcp
          have e : x.rest b = ((x.entries b).take (i + 1)).filter keepW ++ ((x.entries b).drop (i + 1)).filter keepW := by rw [← List.filter_append, List.take_append_drop, rest_entries]
          rw [e, layR_append]
          exact layR_mono
        have hs3l : s3.1.length = x.row.ws.length := by rw [hi3, layR_length]; exact hsl
        have hall : x.all = x.nb + x.sp := rfl
        have hkl : kp.length ≤ 8000 := by
          rw [hi2]
          have h1 := List.length_filter_le keepW ((x.entries b).take i)
          rw [List.length_take] at h1
          omega
        have hmn := putW_mono (nb := x.nb) s3 kp.length y
        have hnl : (kp ++ [y]).length = kp.length + 1 := by simp
        by_cases hc7 : kp.length ≠ 0 ∧ kp.length % 7 = 0
        · have hpe : putW x.nb s3 kp.length y = ((s3.1.set (s3.2.2 * 8 + 7) ((x.nb + s3.2.1 : Nat) + 1 : Int)).set ((x.nb + s3.2.1) * 8 + kp.length % 7) y, s3.2.1 + 1, x.nb + s3.2.1) := by rw [putW, if_pos hc7]
          rw [hpe] at hcp2 hput hmn
          simp only at hcp2 hmn
          have hk1 : kOf kp.length = 7 := by unfold kOf; rw [if_pos hc7]
          have hk2 : kOf (kp.length + 1) = 1 := by unfold kOf; rw [if_neg (by omega)]; omega
          rw [hc7.2] at hput
          have ea3 : (x.nb : Int) + s3.2.1 + 1 = ((x.nb + s3.2.1 : Nat) + 1 : Int) := by omega
          rw [hk1]
          repeat' (first | (refine gL ?_; refine p_val rfl (g_ldI (i := i) rfl (ownS_rd h (by repeat first | exact .here | apply Has.there)) (by omega) (by omega)) ?_; rw [hgy]) | (refine gS ?_; refine p_do rfl (d_stN (i := s3.2.2 * 8 + 7) rfl rfl (h.pick (by repeat first | exact .here | apply Has.there)) (by omega) (by omega) (by omega)) ?_; rintro _ w ⟨rfl, h⟩; rw [ea3] at h) | (refine gLR ?_; refine r_own rfl rfl rfl h (fun w h => g_ldI (i := i) rfl (ownS_rd h (by repeat first | exact .here | apply Has.there)) (by omega) (by omega)) ?_; rw [hgy]) | (refine gSR ?_; refine r_do rfl rfl (d_stN (i := (x.nb + s3.2.1) * 8 + 0) rfl rfl (h.pick (by repeat first | exact .here | apply Has.there)) (by omega) (by rw [List.length_set]; omega) (by omega)) ?_; rintro _ w ⟨rfl, h⟩; refine nowa ?_) | refine stP ?_ | (refine stC0_R17d ?_; rintro v w h) | (refine stC1_R17d ?_; rintro _ w ⟨rfl, h⟩) | (refine stD2_R17d ?_; rintro _ w ⟨rfl, h⟩ <;> refine nowa ?_) | (refine p_cmp rfl rfl rfl rfl (fun hc => ?_) (fun hc => ?_) <;> simp only [cmpProp] at hc) | (refine r_cmp rfl rfl rfl rfl rfl (fun hc => ?_) (fun hc => ?_) <;> simp only [cmpProp] at hc) | (refine x_drawn rfl ?_; have h := h.drew) | refine x_drawn rfl ?_ | fail)
          exact x_keep [0, 3, 4, 5, 6, 7, 8, 9, 10] rfl (ih2 _ _ _ (by omega) ⟨i + 1, g, _, kp ++ [y], rfl, by omega, by omega, hkf.symm, hput.symm, Nat.lt_succ_self _, by rw [hnl, hk2]; rfl, h.pm4⟩)
        · have hpe : putW x.nb s3 kp.length y = (s3.1.set (s3.2.2 * 8 + kp.length % 7) y, s3.2.1, s3.2.2) := by rw [putW, if_neg hc7]
          rw [hpe] at hcp2 hput hmn
          simp only at hcp2 hmn
          have hk1 : kOf kp.length = kp.length % 7 := by unfold kOf; rw [if_neg hc7]
          have hk2 : kOf (kp.length + 1) = kp.length % 7 + 1 := by unfold kOf; split <;> omega
          rw [hk1]
          have hm7 : kp.length % 7 < 7 := Nat.mod_lt _ (by decide)
          repeat' (first | (refine gL ?_; refine p_val rfl (g_ldI (i := i) rfl (ownS_rd h (by repeat first | exact .here | apply Has.there)) (by omega) (by omega)) ?_; rw [hgy]) | (refine gLR ?_; refine r_own rfl rfl rfl h (fun w h => g_ldI (i := i) rfl (ownS_rd h (by repeat first | exact .here | apply Has.there)) (by omega) (by omega)) ?_; rw [hgy]) | (refine gSR ?_; refine r_do rfl rfl (d_stN (i := s3.2.2 * 8 + kp.length % 7) rfl rfl (h.pick (by repeat first | exact .here | apply Has.there)) (by omega) (by omega) (by omega)) ?_; rintro _ w ⟨rfl, h⟩; refine nowa ?_) | refine stP ?_ | (refine stC0_R17d ?_; rintro v w h) | (refine stC1_R17d ?_; rintro _ w ⟨rfl, h⟩) | (refine stD2_R17d ?_; rintro _ w ⟨rfl, h⟩ <;> refine nowa ?_) | (refine p_cmp rfl rfl rfl rfl (fun hc => ?_) (fun hc => ?_) <;> simp only [cmpProp] at hc) | (refine r_cmp rfl rfl rfl rfl rfl (fun hc => ?_) (fun hc => ?_) <;> simp only [cmpProp] at hc) | (refine x_drawn rfl ?_; have h := h.drew) | refine x_drawn rfl ?_ | fail)
          exact x_keep [0, 3, 4, 5, 6, 7, 8, 9, 10] rfl (ih2 _ _ _ (by omega) ⟨i + 1, g, _, kp ++ [y], rfl, by omega, by omega, hkf.symm, hput.symm, hi4, by rw [hnl, hk2]; rfl, h.pm4⟩)
    · obtain rfl : i = el := by omega
      rw [List.take_of_length_le (by omega)] at hi1 hi2
      rw [← rest_entries] at hi2
      rw [← gone_entries] at hi1
      subst hi2
      subst hi3
      repeat' (first | refine stPs ?_ | (refine stC0_R17d ?_; rintro v w h) | (refine stC1_R17d ?_; rintro _ w ⟨rfl, h⟩) | (refine stD2_R17d ?_; rintro _ w ⟨rfl, h⟩ <;> refine nowa ?_) | (refine p_cmp rfl rfl rfl rfl (fun hc => ?_) (fun hc => ?_) <;> simp only [cmpProp] at hc) | (refine r_cmp rfl rfl rfl rfl rfl (fun hc => ?_) (fun hc => ?_) <;> simp only [cmpProp] at hc) | (refine x_drawn rfl ?_; have h := h.drew) | refine x_drawn rfl ?_ | fail)
      exact x_keep [0, 3, 4, 5, 6] rfl (ih _ _ _ (by omega) ⟨b + 1, g, _, rfl, by omega, hi1, hst1.symm, rfl, h.pm3⟩)
  · obtain rfl : b = x.nb := by omega
    rw [List.take_of_length_le (by omega), ← hlaid] at hi2
    subst hi2
    repeat' (first | refine stPs ?_ | (refine stC0_R17d ?_; rintro v w h) | (refine stC1_R17d ?_; rintro _ w ⟨rfl, h⟩) | (refine stD2_R17d ?_; rintro _ w ⟨rfl, h⟩ <;> refine nowa ?_) | (refine p_cmp rfl rfl rfl rfl (fun hc => ?_) (fun hc => ?_) <;> simp only [cmpProp] at hc) | (refine r_cmp rfl rfl rfl rfl rfl (fun hc => ?_) (fun hc => ?_) <;> simp only [cmpProp] at hc) | (refine x_drawn rfl ?_; have h := h.drew) | refine x_drawn rfl ?_ | fail)
    have hdt : ((x.drop.taken : Nat) : Int) = x.laid.2 := by unfold IdxM.drop IdxM.taken; simp
    subst hi1
    refine x_ret' is_ref17_Index_Drop rfl ⟨rfl, yp, yl, yc, ?_⟩
    unfold refC
    rw [hdt]
    exact h.pm2
end
end Go.Proofs.Ytmlkeackapflhaa
