/- Layer 17 (index): fresh entries go, and gaps. -/
import Derived.Test.YtmlkeackapflhaaHxS
import Derived.Test.YtmlkeackapflhaaL17
import Derived.Test.YtmlkeackapflhaaP05f
import Derived.Test.YtmlkeackapflhaaHxR
namespace Go.Proofs.Ytmlkeackapflhaa
open Go Go.HX
attribute [local irreducible] Ret XRun XOps XDr XOne Does Gives
set_option maxRecDepth 4000
set_option maxHeartbeats 1000000
theorem stC0_P17d {goal next : Prop} (k : next) (hs : Hid next → goal := by (intro k; (first | (refine gC F.index_Index_Chain ?_; refine p_call rfl rfl (index_Index_Chain_nil _ h) ?_) | (refine gC F.cell_Row_Load ?_; refine p_call rfl rfl (cell_Row_Load_spec _ (h.rf1)) ?_) | (refine gC F.cell_Row_Load ?_; refine p_call rfl rfl (cell_Row_Load_nil _ h) ?_) | (refine gC F.entry_Unpack ?_; refine p_call rfl rfl (entry_Unpack_spec _ ?_ ?_ h) ?_; iterate 2 (first | assumption | omega | (simp only []; omega) | decide)) | (refine gC F.cell_Row_Store ?_; refine p_call rfl rfl (cell_Row_Store_spec _ _ ?_ ?_ (h.rf1)) ?_; iterate 2 (first | assumption | omega | (simp only []; omega) | decide)) | (refine gC F.cell_Row_Store ?_; refine p_call rfl rfl (cell_Row_Store_nil _ _ h) ?_) | (refine gC F.index_Index_Spare ?_; refine p_call rfl rfl (index_Index_Spare_nil h) ?_) | (refine gC F.index_Index_Spare ?_; refine p_call rfl rfl (index_Index_Spare_spec ?_ (h.rf3)) ?_; iterate 1 (first | assumption | omega | (simp only []; omega) | decide)) | (refine gS ?_; (first | refine p_do rfl (d_stwL rfl rfl rfl rfl rfl (h.pick (by repeat first | exact .here | apply Has.there)) (by first | (dsimp only [Value.cells]; done) | exact rfl)) ?_ | refine p_do rfl (d_stL rfl rfl rfl (h.pick (by repeat first | exact .here | apply Has.there)) (by first | exact of_decide_eq_true rfl | simp) (by first | (dsimp only [List.set]; done) | exact rfl)) ?_)) | fail); exact k.out)) : goal := hs ⟨k⟩
theorem stC1_P17d {goal next : Prop} (k : next) (hs : Hid next → goal := by (intro k; (first | (refine gC F.index_Index_Chain ?_; refine p_call rfl rfl (index_Index_Chain_spec _ ?_ (h.rf2)) ?_; iterate 1 (first | assumption | omega | (simp only []; omega) | decide)) | fail); exact k.out)) : goal := hs ⟨k⟩
theorem stC2_P17d {goal next : Prop} (k : next) (hs : Hid next → goal := by (intro k; (first | (refine gN ?_; refine p_do rfl (d_newL h (by first | (dsimp only [Value.cells]; done) | exact rfl)) ?_) | fail); exact k.out)) : goal := hs ⟨k⟩
theorem stD3_P17d {goal next : Prop} (k : next) (hs : Hid next → goal := by (intro k; (first | (refine gCR F.cell_Row_Len ?_; refine r_call rfl rfl rfl (cell_Row_Len_spec (h.rf1)) ?_) | (refine gCR F.cell_Row_Len ?_; refine r_call rfl rfl rfl (cell_Row_Len_nil h) ?_) | (refine gCR F.cell_Row_Fill ?_; refine r_call rfl rfl rfl (cell_Row_Fill_nil _ _ _ _ h) ?_) | fail); exact k.out)) : goal := hs ⟨k⟩
def freshP (w : Int) : Bool := decide ((unpackE w).2 = 0 ∧ (unpackE w).1.fresh = true)
def keepW (w : Int) : Bool := decide (w ≠ 0) && !freshP w
def IdxM.words (x : IdxM) (b : Nat) : List Int := (slotsG (x.chain b)).map x.wd
/-- What stays of a chain. -/
def IdxM.rest (x : IdxM) (b : Nat) : List Int := (x.words b).filter keepW
def IdxM.goneB (x : IdxM) (b : Nat) : Nat := ((x.words b).filter freshP).length
def IdxM.gone (x : IdxM) : Nat → Nat
  | 0 => 0
  | b + 1 => x.gone b + x.goneB b
/-- A word more in a chain: cells, spare ones taken, the bucket that is filled. -/
def putW (nb : Nat) (st : List Int × Nat × Nat) (i : Nat) (w : Int) : List Int × Nat × Nat :=
  if i ≠ 0 ∧ i % 7 = 0 then ((st.1.set (st.2.2 * 8 + 7) ((nb + st.2.1 : Nat) + 1 : Int)).set ((nb + st.2.1) * 8 + i % 7) w, st.2.1 + 1, nb + st.2.1)
  else (st.1.set (st.2.2 * 8 + i % 7) w, st.2.1, st.2.2)
def layR (nb : Nat) : List Int × Nat × Nat → Nat → List Int → List Int × Nat × Nat
  | st, _, [] => st
  | st, i, w :: r => layR nb (putW nb st i w) (i + 1) r
def layAll (nb : Nat) : List Int × Nat → Nat → List (List Int) → List Int × Nat
  | st, _, [] => st
  | st, b, r :: rs => layAll nb ((layR nb (st.1, st.2, b) 0 r).1, (layR nb (st.1, st.2, b) 0 r).2.1) (b + 1) rs
def IdxM.rests (x : IdxM) : List (List Int) := (List.range x.nb).map x.rest
def IdxM.laid (x : IdxM) : List Int × Nat := layAll x.nb (List.replicate x.row.ws.length 0, 0) 0 x.rests
def IdxM.drop (x : IdxM) : IdxM := { x with row := { x.row with ws := x.laid.1 }, tk := { x.tk with ws := [(x.laid.2 : Int)] } }
theorem set_same {α : Type} {l : List α} {i : Nat} {a : α} (h : l[i]? = some a) : l.set i a = l := by
  apply List.ext_getElem?
  intro j
  rw [List.getElem?_set]
  split
  · rename_i e
    subst e
    have := (List.getElem?_eq_some_iff.1 h).1
    simp [this]
    exact (List.getElem?_eq_some_iff.1 h).2.symm
  · rfl
theorem layR_append {nb : Nat} : ∀ {r r' : List Int} {st : List Int × Nat × Nat} {i : Nat}, layR nb st i (r ++ r') = layR nb (layR nb st i r) (i + r.length) r'
  | [], r', st, i => by simp [layR]
  | w :: r, r', st, i => by
    simp only [List.cons_append, layR, List.length_cons]
    rw [layR_append]
    congr 1
    omega
theorem layAll_append {nb : Nat} : ∀ {rs rs' : List (List Int)} {st : List Int × Nat} {b : Nat}, layAll nb st b (rs ++ rs') = layAll nb (layAll nb st b rs) (b + rs.length) rs'
  | [], rs', st, b => by simp [layAll]
  | r :: rs, rs', st, b => by
    simp only [List.cons_append, layAll, List.length_cons]
    rw [layAll_append]
    congr 1
    omega
theorem putW_mono {nb : Nat} (st : List Int × Nat × Nat) (i : Nat) (w : Int) : st.2.1 ≤ (putW nb st i w).2.1 := by
  unfold putW
  split <;> simp
theorem layR_mono {nb : Nat} : ∀ {r : List Int} {st : List Int × Nat × Nat} {i : Nat}, st.2.1 ≤ (layR nb st i r).2.1
  | [], _, _ => by simp [layR]
  | w :: r, st, i => Nat.le_trans (putW_mono st i w) layR_mono
theorem layAll_mono {nb : Nat} : ∀ {rs : List (List Int)} {st : List Int × Nat} {b : Nat}, st.2 ≤ (layAll nb st b rs).2
  | [], _, _ => by simp [layAll]
  | r :: rs, st, b => Nat.le_trans (layR_mono (nb := nb) (r := r) (st := (st.1, st.2, b)) (i := 0)) (layAll_mono (rs := rs) (st := ((layR nb (st.1, st.2, b) 0 r).1, (layR nb (st.1, st.2, b) 0 r).2.1)) (b := b + 1))
theorem putW_length {nb : Nat} (st : List Int × Nat × Nat) (i : Nat) (w : Int) : (putW nb st i w).1.length = st.1.length := by
  unfold putW
  split <;> simp
theorem layR_length {nb : Nat} : ∀ {r : List Int} {st : List Int × Nat × Nat} {i : Nat}, (layR nb st i r).1.length = st.1.length
  | [], _, _ => by simp [layR]
  | w :: r, st, i => by
    rw [layR, layR_length, putW_length]
theorem layAll_length {nb : Nat} : ∀ {rs : List (List Int)} {st : List Int × Nat} {b : Nat}, (layAll nb st b rs).1.length = st.1.length
  | [], _, _ => by simp [layAll]
  | r :: rs, st, b => by
    rw [layAll, layAll_length]
    exact layR_length
/-- What is said of all ways of laying. -/
theorem layR_ind {nb : Nat} {p : List Int × Nat × Nat → Prop} (hp : ∀ st i w, p st → p (putW nb st i w)) : ∀ {r : List Int} {st : List Int × Nat × Nat} {i : Nat}, p st → p (layR nb st i r)
  | [], _, _, h => h
  | w :: r, st, i, h => layR_ind (r := r) (st := putW nb st i w) (i := i + 1) hp (hp st i w h)
theorem gone_le {x : IdxM} (hok : IdxOk x) : ∀ {i : Nat}, i ≤ x.nb → x.gone i ≤ i * 8000
  | 0, _ => by simp [IdxM.gone]
  | i + 1, hi => by
    have h1 := gone_le hok (show i ≤ x.nb by omega)
    have h2 := idx_small hok
    have h3 : (x.chain i).length ≤ x.all + 1 := chainG_length x.lnk (x.all + 1) i
    have h4 : x.goneB i ≤ 8000 := by
      unfold IdxM.goneB
      have h5 := List.length_filter_le freshP (x.words i)
      have h6 : (x.words i).length = (x.chain i).length * 7 := by unfold IdxM.words; rw [List.length_map, slotsG_length]
      omega
    unfold IdxM.gone
    omega
section
variable {S : SP} {w : World} {G : List HProp}

set_option maxHeartbeats 8000000 in
theorem index_Index_Drop_spec {b c d : Nat} {x : IdxM} (hok : IdxOk x) (hcap : x.laid.2 ≤ x.sp) (h : Sat S w (pt b (.cells (idxC (x) c d) T.index_Index (0, 0)) :: isRow c (x).row :: isRow d (x).tk :: G)) :
    Ret Try.prog F.index_Index_Drop #[.pointer (some ⟨b, 0, none⟩)] w (fun v w' => v = .int .i64 (x.gone x.nb) ∧ Sat S w' (pt b (.cells (idxC (x.drop) c d) T.index_Index (0, 0)) :: isRow c (x.drop).row :: isRow d (x.drop).tk :: G)) := by
  have hs := idx_small hok
  have hl8 := hok.len
  have hrow := isRow_ok h (.there .here)
  refine ret_of is_index_Index_Drop rfl ?_
  repeat' (first | refine stPs ?_ | (refine stC0_P17d ?_; rintro _ w ⟨rfl, h⟩) | (refine stC1_P17d ?_; rintro v w h) | (refine stC2_P17d ?_; rintro _ w ⟨bx, rfl, h⟩) | (refine stD3_P17d ?_; rintro _ w ⟨rfl, h⟩ <;> refine nowa ?_) | (refine p_cmp rfl rfl rfl rfl (fun hc => ?_) (fun hc => ?_) <;> simp only [cmpProp] at hc) | (refine r_cmp rfl rfl rfl rfl rfl (fun hc => ?_) (fun hc => ?_) <;> simp only [cmpProp] at hc) | (refine x_drawn rfl ?_; have h := h.drew) | refine x_drawn rfl ?_ | fail)
  refine p_mkZ (n := x.nb) rfl rfl rfl (by decide) (by omega) (by omega) h (fun v4 w h => ?_)
  rw [zerosA_one] at h
  have h := ownAll_nils (E := T.uint64) (n := 1) x.nb h
  have hz : (List.replicate x.nb ([] : List Int)).map (ints .u64) = List.replicate x.nb [] := by simp [ints]
  rw [← hz] at h
  obtain ⟨va, vl, vc, rfl, hvl, _⟩ := ownS_slice h (.there .here)
  rw [List.length_replicate, Nat.mul_one] at hvl
  obtain ⟨p4, rfl⟩ := ownS_addr h (.there .here) (by omega)
  repeat' (first | refine stPs ?_ | (refine stC0_P17d ?_; rintro _ w ⟨rfl, h⟩) | (refine stC1_P17d ?_; rintro v w h) | (refine stC2_P17d ?_; rintro _ w ⟨bx, rfl, h⟩) | (refine stD3_P17d ?_; rintro _ w ⟨rfl, h⟩ <;> refine nowa ?_) | (refine p_cmp rfl rfl rfl rfl (fun hc => ?_) (fun hc => ?_) <;> simp only [cmpProp] at hc) | (refine r_cmp rfl rfl rfl rfl rfl (fun hc => ?_) (fun hc => ?_) <;> simp only [cmpProp] at hc) | (refine x_drawn rfl ?_; have h := h.drew) | refine x_drawn rfl ?_ | fail)
  have hw : ∀ i k, i < x.nb → k ∈ slotsG (x.chain i) → k < x.row.ws.length := fun i k hi hk => by
    have := chainG_all hok.link (x.all + 1) i (by omega) (k / 8) (mem_slots.1 hk).2
    omega
  refine x_keep [0, 3, 4, 28, 29] rfl ?_
  refine x_loop_inv (fun lm le w => ∃ (i : Nat), ∃ (g : Nat), ∃ (vs : List Value), ∃ (rs : List (List Int)), lm = x.nb - i ∧ i ≤ x.nb ∧ g = x.gone i ∧ rs = (List.range i).map x.rest ++ List.replicate (x.nb - i) [] ∧ vs.length = x.nb ∧ le = [(0, .pointer (some ⟨b, 0, none⟩)), (3, .int .i64 g), (4, .slice (some ⟨p4, 0, none⟩) vl vc), (28, .int .i64 x.nb), (29, .int .i64 i)] ∧ Sat S w (ownAll T.uint64 1 vs (rs.map (ints .u64)) :: ownS T.slice_uint64 1 (.slice (some ⟨p4, 0, none⟩) vl vc) vs :: pt b (.cells (idxC (x) c d) T.index_Index (0, 0)) :: isRow c (x).row :: isRow d (x).tk :: G)) (x.nb) ⟨0, 0, _, List.replicate x.nb [], rfl, by omega, rfl, rfl, List.length_replicate, rfl, h⟩ ?_
  clear h
  rintro lm le w ⟨i, g, vs, rs, rfl, hi0, hi1, hi2, hi3, rfl, h⟩ ih
  by_cases hi : i < x.nb
  · have hchz : x.chainZ (i : Int) = x.chain i := by unfold IdxM.chainZ; rw [if_pos ⟨by omega, by omega⟩, Int.toNat_natCast]
    have hcl : (x.chain i).length ≤ x.all + 1 := chainG_length x.lnk (x.all + 1) i
    have hca : ∀ k ∈ x.chain i, k < x.all := chainG_all hok.link (x.all + 1) i (by omega)
    repeat' (first | refine stPs ?_ | (refine p_cmp rfl rfl rfl rfl (fun hc => ?_) (fun hc => ?_) <;> simp only [cmpProp] at hc) | (refine r_cmp rfl rfl rfl rfl rfl (fun hc => ?_) (fun hc => ?_) <;> simp only [cmpProp] at hc) | (refine x_drawn rfl ?_; have h := h.drew) | refine x_drawn rfl ?_ | fail)
    refine p_call rfl rfl (index_Index_Chain_spec (i : Int) hok (h.rf2)) ?_
    rw [hchz]
    rintro v34 w h
    refine p_call rfl rfl (index_slots_spec (x.chain i) (by omega) (fun k hk => by have := hca k hk; omega) h) ?_
    rintro v35 w h
    obtain ⟨sa, sl, sc, rfl, hsl, _⟩ := ownS_slice h .here
    rw [ints_length, natsZ_length, Nat.mul_one] at hsl
    have hslb : sl ≤ 8000 := by rw [← hsl, slotsG_length]; omega
    have hgo := gone_le hok (show i ≤ x.nb by omega)
    have hgo2 : i * 8000 ≤ 8192000 := by omega
    have hwl : (x.words i).length = sl := by unfold IdxM.words; rw [List.length_map]; exact hsl
    repeat' (first | refine stPs ?_ | (refine p_cmp rfl rfl rfl rfl (fun hc => ?_) (fun hc => ?_) <;> simp only [cmpProp] at hc) | (refine r_cmp rfl rfl rfl rfl rfl (fun hc => ?_) (fun hc => ?_) <;> simp only [cmpProp] at hc) | (refine x_drawn rfl ?_; have h := h.drew) | refine x_drawn rfl ?_ | fail)
    have hrs0 : rs = (List.range i).map x.rest ++ ((x.words i).take 0).filter keepW :: List.replicate (x.nb - i - 1) [] := by
      rw [hi2]
      have : x.nb - i = (x.nb - i - 1) + 1 := by omega
      rw [this, List.replicate_succ]
      simp
    refine x_keep [0, 3, 4, 5, 28, 29, 35, 36, 37] rfl ?_
    refine x_loop_inv (fun lm le w => ∃ (j : Nat), ∃ (g : Nat), ∃ (vs : List Value), ∃ (rs : List (List Int)), lm = sl - j ∧ j ≤ sl ∧ g = x.gone i + (((x.words i).take j).filter freshP).length ∧ rs = (List.range i).map x.rest ++ ((x.words i).take j).filter keepW :: List.replicate (x.nb - i - 1) [] ∧ vs.length = x.nb ∧ le = [(0, .pointer (some ⟨b, 0, none⟩)), (3, .int .i64 g), (4, .slice (some ⟨p4, 0, none⟩) vl vc), (5, .int .i64 i), (28, .int .i64 x.nb), (29, .int .i64 i), (35, .slice sa sl sc), (36, .int .i64 sl), (37, .int .i64 j)] ∧ Sat S w (ownAll T.uint64 1 vs (rs.map (ints .u64)) :: ownS T.slice_uint64 1 (.slice (some ⟨p4, 0, none⟩) vl vc) vs :: ownS T.int 1 (.slice sa sl sc) (ints .i64 (natsZ (slotsG (x.chain i)))) :: pt b (.cells (idxC (x) c d) T.index_Index (0, 0)) :: isRow c (x).row :: isRow d (x).tk :: G)) (sl) ⟨0, g, vs, rs, rfl, by omega, hi1, hrs0, hi3, rfl, h.pm6⟩ ?_
    clear h
    rintro lm le w ⟨j, g, vs, rs, rfl, hi0, hi1, hi2, hi3, rfl, h⟩ ih2
    have hgf : (((x.words i).take j).filter freshP).length ≤ j := by
      have h1 := List.length_filter_le freshP ((x.words i).take j)
      rw [List.length_take] at h1
      omega
    by_cases hj : j < sl
    · obtain ⟨s, hsj⟩ := has_elem (show j < (slotsG (x.chain i)).length by omega)
      have hsm := hw i s hi (List.mem_of_getElem? hsj)
      have hgs : (natsZ (slotsG (x.chain i))).getD j 0 = s := by unfold natsZ; rw [List.getD_eq_getElem?_getD, List.getElem?_map, hsj]; rfl
      have hwj : (x.words i)[j]? = some (x.wd s) := by unfold IdxM.words; rw [List.getElem?_map, hsj]; rfl
      have hld : x.row.load (s : Int) = x.wd s := by rw [RowM.load, if_pos (by omega), Int.toNat_natCast]; rfl
      have hbd := RowM.getD_ok hrow s
      have hbd2 : 0 ≤ x.wd s ∧ x.wd s ≤ 18446744073709551615 := hbd
      obtain ⟨pa, rfl⟩ := ownS_addr h (.there (.there .here)) (by omega)
      have htn := take_next hwj
      have hkw : keepW (x.wd s) = (decide (x.wd s ≠ 0) && !freshP (x.wd s)) := rfl
      obtain ⟨⟨⟨ea, et, ef⟩, ez⟩, hu⟩ : ∃ q, unpackE (x.wd s) = q := ⟨_, rfl⟩
      have hfp : freshP (x.wd s) = decide (ez = 0 ∧ ef = true) := by unfold freshP; rw [hu]
      have hgl : (((x.words i).take (j + 1)).filter freshP).length = (((x.words i).take j).filter freshP).length + if freshP (x.wd s) = true then 1 else 0 := by
        rw [htn, List.filter_append, List.length_append]
        cases hfq : freshP (x.wd s) <;> simp [hfq]
      have hkl : ((x.words i).take (j + 1)).filter keepW = ((x.words i).take j).filter keepW ++ if keepW (x.wd s) = true then [x.wd s] else [] := by
        rw [htn, List.filter_append]
        cases hk : keepW (x.wd s) <;> simp [hk]
      by_cases c1 : ez = 0 ∧ ef = true
      · rw [decide_eq_true c1] at hfp
        have hkf : ¬ keepW (x.wd s) = true := by rw [hkw, hfp]; simp
        rw [if_pos hfp] at hgl
        rw [if_neg hkf, List.append_nil] at hkl
        obtain ⟨rfl, rfl⟩ := c1
        repeat' (first | (refine gL ?_; refine p_val rfl (g_ldI (i := j) rfl (ownS_rd h (.there (.there .here))) (by omega) (by rw [natsZ_length]; omega)) ?_; rw [hgs]) | (refine gC F.cell_Row_Load ?_; refine p_call rfl rfl (cell_Row_Load_spec _ (h.rf1)) ?_; rw [hld]; rintro _ w ⟨rfl, h⟩) | (refine gC F.entry_Unpack ?_; refine p_call rfl rfl (entry_Unpack_spec _ hbd2.1 hbd2.2 h) ?_; rw [hu]; rintro _ w ⟨rfl, h⟩) | refine stP ?_ | (refine stC0_P17d ?_; rintro _ w ⟨rfl, h⟩) | (refine stC1_P17d ?_; rintro v w h) | (refine stC2_P17d ?_; rintro _ w ⟨bx, rfl, h⟩) | (refine stD3_P17d ?_; rintro _ w ⟨rfl, h⟩ <;> refine nowa ?_) | (refine p_cmp rfl rfl rfl rfl (fun hc => ?_) (fun hc => ?_) <;> simp only [cmpProp] at hc) | (refine r_cmp rfl rfl rfl rfl rfl (fun hc => ?_) (fun hc => ?_) <;> simp only [cmpProp] at hc) | (refine x_drawn rfl ?_; have h := h.drew) | refine x_drawn rfl ?_ | fail)
        exact x_keep [0, 3, 4, 5, 28, 29, 35, 36, 37] rfl (ih2 _ _ _ (by omega) ⟨j + 1, g + 1, vs, rs, rfl, by omega, by omega, by rw [hkl]; exact hi2, hi3, rfl, h.pm6⟩)
      · rw [decide_eq_false c1] at hfp
        rw [if_neg (by rw [hfp]; simp)] at hgl
        by_cases c2 : x.wd s = 0
        · have hez : ez = 7 := by
            unfold unpackE at hu
            rw [if_pos c2] at hu
            cases hu
            rfl
          have hkf : ¬ keepW (x.wd s) = true := by rw [hkw, c2]; simp
          rw [if_neg hkf, List.append_nil] at hkl
          subst hez
          repeat' (first | (refine gL ?_; refine p_val rfl (g_ldI (i := j) rfl (ownS_rd h (.there (.there .here))) (by omega) (by rw [natsZ_length]; omega)) ?_; rw [hgs]) | (refine gC F.cell_Row_Load ?_; refine p_call rfl rfl (cell_Row_Load_spec _ (h.rf1)) ?_; rw [hld]; rintro _ w ⟨rfl, h⟩) | (refine gC F.entry_Unpack ?_; refine p_call rfl rfl (entry_Unpack_spec _ hbd2.1 hbd2.2 h) ?_; rw [hu]; rintro _ w ⟨rfl, h⟩) | refine stP ?_ | (refine stC0_P17d ?_; rintro _ w ⟨rfl, h⟩) | (refine stC1_P17d ?_; rintro v w h) | (refine stC2_P17d ?_; rintro _ w ⟨bx, rfl, h⟩) | (refine stD3_P17d ?_; rintro _ w ⟨rfl, h⟩ <;> refine nowa ?_) | (refine p_cmp rfl rfl rfl rfl (fun hc => ?_) (fun hc => ?_) <;> simp only [cmpProp] at hc) | (refine r_cmp rfl rfl rfl rfl rfl (fun hc => ?_) (fun hc => ?_) <;> simp only [cmpProp] at hc) | (refine x_drawn rfl ?_; have h := h.drew) | refine x_drawn rfl ?_ | fail)
          exact x_keep [0, 3, 4, 5, 28, 29, 35, 36, 37] rfl (ih2 _ _ _ (by omega) ⟨j + 1, g, vs, rs, rfl, by omega, by omega, by rw [hkl]; exact hi2, hi3, rfl, h.pm6⟩)
        · have hkf : keepW (x.wd s) = true := by rw [hkw, hfp, decide_eq_true c2]; rfl
          rw [if_pos hkf] at hkl
          have hcase : (ez = 0 ∧ ef = false) ∨ ez ≠ 0 := by
            by_cases hz : ez = 0
            · left
              refine ⟨hz, ?_⟩
              cases ef
              · rfl
              · exact absurd ⟨hz, rfl⟩ c1
            · exact .inr hz
          obtain ⟨vi, hvi⟩ := has_elem (show i < vs.length by omega)
          have hlen1 : ((List.range i).map x.rest).length = i := by simp
          have hri : rs[i]? = some (((x.words i).take j).filter keepW) := by rw [hi2, List.getElem?_append_right (by omega), hlen1, Nat.sub_self]; rfl
          have hrs : rs.set i (((x.words i).take (j + 1)).filter keepW) = (List.range i).map x.rest ++ ((x.words i).take (j + 1)).filter keepW :: List.replicate (x.nb - i - 1) [] := by
            rw [hi2, List.set_append_right _ _ (by omega), hlen1, Nat.sub_self]
            rfl
          have hril : i < rs.length := (List.getElem?_eq_some_iff.1 hri).1
          have hfl : (((x.words i).take j).filter keepW).length ≤ j := by
            have h1 := List.length_filter_le keepW ((x.words i).take j)
            rw [List.length_take] at h1
            omega
          rcases hcase with ⟨rfl, rfl⟩ | hcz
          all_goals
            repeat' (first | (refine gL ?_; refine p_val rfl (g_ldI (i := j) rfl (ownS_rd h (.there (.there .here))) (by omega) (by rw [natsZ_length]; omega)) ?_; rw [hgs]) | (refine gC F.cell_Row_Load ?_; refine p_call rfl rfl (cell_Row_Load_spec _ (h.rf1)) ?_; rw [hld]; rintro _ w ⟨rfl, h⟩) | (refine gC F.entry_Unpack ?_; refine p_call rfl rfl (entry_Unpack_spec _ hbd2.1 hbd2.2 h) ?_; rw [hu]; rintro _ w ⟨rfl, h⟩) | (refine gL ?_; refine p_val rfl (g_ldV (i := i) rfl (ownS_rd h (by repeat first | exact .here | apply Has.there)) (by omega) hvi) ?_) | refine stP ?_ | (refine stC0_P17d ?_; rintro _ w ⟨rfl, h⟩) | (refine stC1_P17d ?_; rintro v w h) | (refine stC2_P17d ?_; rintro _ w ⟨bx, rfl, h⟩) | (refine stD3_P17d ?_; rintro _ w ⟨rfl, h⟩ <;> refine nowa ?_) | (refine p_cmp rfl rfl rfl rfl (fun hc => ?_) (fun hc => ?_) <;> simp only [cmpProp] at hc) | (refine r_cmp rfl rfl rfl rfl rfl (fun hc => ?_) (fun hc => ?_) <;> simp only [cmpProp] at hc) | (refine x_drawn rfl ?_; have h := h.drew) | refine x_drawn rfl ?_ | fail)
            refine p_lit [.int .u64 (x.wd s)] rfl rfl rfl rfl rfl rfl h (fun vn w h => ?_)
            have h := ownAll_take (h.pick (by repeat first | exact .here | apply Has.there)) hvi (by rw [List.getElem?_map, hri]; rfl)
            refine p_app rfl rfl rfl rfl (by decide) h (ownS_rd h (by repeat first | exact .here | apply Has.there)) (by simp [Value.oneCell']) (by rw [ints_length]; simp; omega) (by rw [ints_length]; simp; omega) (fun v' w h => ?_)
            have hv1 := ownS_cell h .here
            repeat' (first | (refine gS ?_; refine p_do rfl (d_stV (i := i) rfl rfl hv1 (h.pick (by repeat first | exact .here | apply Has.there)) (by omega) (by omega)) ?_; rintro _ w ⟨rfl, h⟩) | refine stP ?_ | (refine stC0_P17d ?_; rintro _ w ⟨rfl, h⟩) | (refine stC1_P17d ?_; rintro v w h) | (refine stC2_P17d ?_; rintro _ w ⟨bx, rfl, h⟩) | (refine stD3_P17d ?_; rintro _ w ⟨rfl, h⟩ <;> refine nowa ?_) | (refine p_cmp rfl rfl rfl rfl (fun hc => ?_) (fun hc => ?_) <;> simp only [cmpProp] at hc) | (refine r_cmp rfl rfl rfl rfl rfl (fun hc => ?_) (fun hc => ?_) <;> simp only [cmpProp] at hc) | (refine x_drawn rfl ?_; have h := h.drew) | refine x_drawn rfl ?_ | fail)
            have h := ownAll_put (E := T.uint64) (n := 1) (vs := vs) (cs := rs.map (ints .u64)) (i := i) (v := v') (by omega) (by simpa using hril) (h.rf2)
            have e3 : (rs.map (ints .u64)).set i (ints .u64 (((x.words i).take j).filter keepW) ++ [.int .u64 (x.wd s)]) = (rs.set i (((x.words i).take (j + 1)).filter keepW)).map (ints .u64) := by
              rw [List.map_set, hkl]
              simp [ints]
            rw [e3] at h
            exact x_keep [0, 3, 4, 5, 28, 29, 35, 36, 37] rfl (ih2 _ _ _ (by omega) ⟨j + 1, g, vs.set i v', _, rfl, by omega, by omega, hrs, by rw [List.length_set]; exact hi3, rfl, h.pm6⟩)
    · obtain rfl : j = sl := by omega
      rw [← hwl, List.take_length] at hi1 hi2
      repeat' (first | refine stPs ?_ | (refine stC0_P17d ?_; rintro _ w ⟨rfl, h⟩) | (refine stC1_P17d ?_; rintro v w h) | (refine stC2_P17d ?_; rintro _ w ⟨bx, rfl, h⟩) | (refine stD3_P17d ?_; rintro _ w ⟨rfl, h⟩ <;> refine nowa ?_) | (refine p_cmp rfl rfl rfl rfl (fun hc => ?_) (fun hc => ?_) <;> simp only [cmpProp] at hc) | (refine r_cmp rfl rfl rfl rfl rfl (fun hc => ?_) (fun hc => ?_) <;> simp only [cmpProp] at hc) | (refine x_drawn rfl ?_; have h := h.drew) | refine x_drawn rfl ?_ | fail)
      refine x_keep [0, 3, 4, 28, 29] rfl (ih _ _ _ (by omega) ⟨i + 1, g, vs, rs, rfl, by omega, hi1, ?_, hi3, rfl, h.pm⟩)
      rw [hi2, List.range_succ, List.map_append]
      simp [IdxM.rest]
      rfl
  · obtain rfl : i = x.nb := by omega
    rw [Nat.sub_self, List.replicate_zero, List.append_nil] at hi2
    have hi2 : rs = x.rests := hi2
    have hgo := gone_le hok (Nat.le_refl x.nb)
    subst hi1 hi2
    have hr0 : x.row.inR 0 x.row.ws.length := ⟨by omega, by omega, by omega, by omega⟩
    have hf0 : fillRow x.row.ws (0 : Int).toNat (List.replicate x.row.ws.length 0) = List.replicate x.row.ws.length 0 := by
      unfold fillRow
      simp
    repeat' (first | (refine gMkR ?_; refine r_do rfl rfl (d_mkN (n := x.row.ws.length) (sz := 1) (kd := .u64) rfl rfl (by omega) (by omega) (by omega) h) ?_; intro vz w h; rw [Nat.mul_one] at h; refine nowa ?_) | refine stP ?_ | (refine stC0_P17d ?_; rintro _ w ⟨rfl, h⟩) | (refine stC1_P17d ?_; rintro v w h) | (refine stC2_P17d ?_; rintro _ w ⟨bx, rfl, h⟩) | (refine stD3_P17d ?_; rintro _ w ⟨rfl, h⟩ <;> refine nowa ?_) | (refine p_cmp rfl rfl rfl rfl (fun hc => ?_) (fun hc => ?_) <;> simp only [cmpProp] at hc) | (refine r_cmp rfl rfl rfl rfl rfl (fun hc => ?_) (fun hc => ?_) <;> simp only [cmpProp] at hc) | (refine x_drawn rfl ?_; have h := h.drew) | refine x_drawn rfl ?_ | fail)
    obtain ⟨za, zl, zc, rfl, hzl, _⟩ := ownS_slice h .here
    rw [ints_length, List.length_replicate, Nat.mul_one] at hzl
    have h : Sat S w (isRow c x.row :: _) := h.pick (.there .here)
    refine r_call rfl rfl rfl (cell_Row_Fill_spec 0 (List.replicate x.row.ws.length 0) (by rw [List.length_replicate]; omega) (by omega) (fun y hy => by rw [(List.mem_replicate.1 hy).2]; omega) (fun w h => ownS_rd h .here) h) ?_
    rw [List.length_replicate, if_pos hr0, if_pos hr0, hf0]
    rintro _ w ⟨rfl, h⟩
    refine nowa ?_
    have htk0 : x.tk.store 0 0 = { x.tk with ws := [0] } := by
      have ht := hok.tlen
      obtain ⟨a, ha⟩ := List.length_eq_one_iff.1 ht
      unfold RowM.store
      rw [if_pos ⟨by omega, by omega⟩, ha]
      rfl
    repeat' (first | (refine gC F.cell_Row_Store ?_; refine p_call rfl rfl (cell_Row_Store_spec 0 0 (by decide) (by decide) (h.rf1)) ?_; rw [htk0]; rintro _ w ⟨rfl, h⟩) | refine stP ?_ | (refine stC0_P17d ?_; rintro _ w ⟨rfl, h⟩) | (refine stC1_P17d ?_; rintro v w h) | (refine stC2_P17d ?_; rintro _ w ⟨bx, rfl, h⟩) | (refine stD3_P17d ?_; rintro _ w ⟨rfl, h⟩ <;> refine nowa ?_) | (refine p_cmp rfl rfl rfl rfl (fun hc => ?_) (fun hc => ?_) <;> simp only [cmpProp] at hc) | (refine r_cmp rfl rfl rfl rfl rfl (fun hc => ?_) (fun hc => ?_) <;> simp only [cmpProp] at hc) | (refine x_drawn rfl ?_; have h := h.drew) | refine x_drawn rfl ?_ | fail)
    have hrl : x.rests.length = x.nb := by unfold IdxM.rests; simp
    have hrb : ∀ (k : Nat) (r : List Int) (y : Int), x.rests[k]? = some r → y ∈ r → 0 ≤ y ∧ y ≤ 18446744073709551615 := fun k r y hk hy => by
      unfold IdxM.rests at hk
      rw [List.getElem?_map] at hk
      cases hr : (List.range x.nb)[k]? with
      | none => rw [hr] at hk; cases hk
      | some b' =>
        rw [hr] at hk
        simp only [Option.map_some, Option.some.injEq] at hk
        subst hk
        unfold IdxM.rest IdxM.words at hy
        obtain ⟨s, _, rfl⟩ := List.mem_map.1 (List.mem_filter.1 hy).1
        exact RowM.getD_ok hrow s
    have hrlen : ∀ (k : Nat) (r : List Int), x.rests[k]? = some r → r.length ≤ 8000 := fun k r hk => by
      unfold IdxM.rests at hk
      rw [List.getElem?_map] at hk
      cases hr : (List.range x.nb)[k]? with
      | none => rw [hr] at hk; cases hk
      | some b' =>
        rw [hr] at hk
        simp only [Option.map_some, Option.some.injEq] at hk
        subst hk
        unfold IdxM.rest
        have h1 := List.length_filter_le keepW (x.words b')
        have h2 : (x.words b').length = (x.chain b').length * 7 := by unfold IdxM.words; rw [List.length_map, slotsG_length]
        have h3 : (x.chain b').length ≤ x.all + 1 := chainG_length x.lnk (x.all + 1) b'
        omega
    have hlaid : x.laid = layAll x.nb (List.replicate x.row.ws.length 0, 0) 0 x.rests := rfl
    have hlt0 : ∀ i, i ≤ x.nb → (layAll x.nb (List.replicate x.row.ws.length 0, 0) 0 (x.rests.take i)).2 ≤ x.sp := fun i hi => by
      refine Nat.le_trans ?_ hcap
      rw [hlaid, ← List.take_append_drop i x.rests, layAll_append, List.take_append_drop]
      exact layAll_mono
    have hll0 : ∀ i, (layAll x.nb (List.replicate x.row.ws.length 0, 0) 0 (x.rests.take i)).1.length = x.row.ws.length := fun i => by rw [layAll_length, List.length_replicate]
    refine x_keep [0, 3, 90, 91, 92] rfl ?_
    refine x_loop_inv (fun lm le w => ∃ (i : Nat), ∃ (st : List Int × Nat), lm = x.nb - i ∧ i ≤ x.nb ∧ st = layAll x.nb (List.replicate x.row.ws.length 0, 0) 0 (x.rests.take i) ∧ le = [(0, .pointer (some ⟨b, 0, none⟩)), (3, .int .i64 (x.gone x.nb : Nat)), (90, .slice (some ⟨p4, 0, none⟩) vl vc), (91, .int .i64 vl), (92, .int .i64 i)] ∧ Sat S w (pt b (.cells (idxC x c d) T.index_Index (0, 0)) :: isRow c { x.row with ws := st.1 } :: isRow d { x.tk with ws := [(st.2 : Int)] } :: ownAll T.uint64 1 vs (x.rests.map (ints .u64)) :: ownS T.slice_uint64 1 (.slice (some ⟨p4, 0, none⟩) vl vc) vs :: G)) (x.nb) ⟨0, (List.replicate x.row.ws.length 0, 0), rfl, by omega, rfl, rfl, h.pm5⟩ ?_
    clear h
    rintro lm le w ⟨i, st, rfl, hi0, hi1, rfl, h⟩ ih
    by_cases hi : i < x.nb
    · obtain ⟨r, hr⟩ := has_elem (show i < x.rests.length by omega)
      obtain ⟨vi, hvi⟩ := has_elem (show i < vs.length by omega)
      have hil : (x.rests.take i).length = i := by rw [List.length_take]; omega
      have hst1 : layAll x.nb (List.replicate x.row.ws.length 0, 0) 0 (x.rests.take (i + 1)) = ((layR x.nb (st.1, st.2, i) 0 r).1, (layR x.nb (st.1, st.2, i) 0 r).2.1) := by
        rw [take_next hr, layAll_append, ← hi1, hil, Nat.zero_add]
        rfl
      have hcp := hlt0 (i + 1) (by omega)
      rw [hst1] at hcp
      have hsl := hll0 i
      rw [← hi1] at hsl
      repeat' (first | (refine gL ?_; refine p_val rfl (g_ldV (i := i) rfl (ownS_rd h (by repeat first | exact .here | apply Has.there)) (by omega) hvi) ?_) | refine stP ?_ | (refine stC0_P17d ?_; rintro _ w ⟨rfl, h⟩) | (refine stC1_P17d ?_; rintro v w h) | (refine stC2_P17d ?_; rintro _ w ⟨bx, rfl, h⟩) | (refine stD3_P17d ?_; rintro _ w ⟨rfl, h⟩ <;> refine nowa ?_) | (refine p_cmp rfl rfl rfl rfl (fun hc => ?_) (fun hc => ?_) <;> simp only [cmpProp] at hc) | (refine r_cmp rfl rfl rfl rfl rfl (fun hc => ?_) (fun hc => ?_) <;> simp only [cmpProp] at hc) | (refine x_drawn rfl ?_; have h := h.drew) | refine x_drawn rfl ?_ | fail)
      have h : Sat S w (ownAll T.uint64 1 vs (x.rests.map (ints .u64)) :: _) := h.pick (by repeat first | exact .here | apply Has.there)
      have h := ownAll_take h hvi (by rw [List.getElem?_map, hr]; rfl)
      obtain ⟨ra, rl, rc, rfl, hrl2, _⟩ := ownS_slice h .here
      rw [ints_length, Nat.mul_one] at hrl2
      repeat' (first | refine stPs ?_ | (refine stC0_P17d ?_; rintro _ w ⟨rfl, h⟩) | (refine stC1_P17d ?_; rintro v w h) | (refine stC2_P17d ?_; rintro _ w ⟨bx, rfl, h⟩) | (refine stD3_P17d ?_; rintro _ w ⟨rfl, h⟩ <;> refine nowa ?_) | (refine p_cmp rfl rfl rfl rfl (fun hc => ?_) (fun hc => ?_) <;> simp only [cmpProp] at hc) | (refine r_cmp rfl rfl rfl rfl rfl (fun hc => ?_) (fun hc => ?_) <;> simp only [cmpProp] at hc) | (refine x_drawn rfl ?_; have h := h.drew) | refine x_drawn rfl ?_ | fail)
      refine x_keep [0, 3, 13, 90, 91, 92, 98, 99, 100] rfl ?_
      refine x_loop_inv (fun lm le w => ∃ (j : Nat), ∃ (s3 : List Int × Nat × Nat), lm = rl - j ∧ j ≤ rl ∧ s3 = layR x.nb (st.1, st.2, i) 0 (r.take j) ∧ s3.2.2 < x.nb + s3.2.1 ∧ le = [(0, .pointer (some ⟨b, 0, none⟩)), (3, .int .i64 (x.gone x.nb : Nat)), (13, .int .i64 s3.2.2), (90, .slice (some ⟨p4, 0, none⟩) vl vc), (91, .int .i64 vl), (92, .int .i64 i), (98, .slice ra rl rc), (99, .int .i64 rl), (100, .int .i64 j)] ∧ Sat S w (pt b (.cells (idxC x c d) T.index_Index (0, 0)) :: isRow c { x.row with ws := s3.1 } :: isRow d { x.tk with ws := [(s3.2.1 : Int)] } :: ownS T.uint64 1 (.slice ra rl rc) (ints .u64 r) :: ownAll T.uint64 1 (vs.set i (.slice none 0 0)) ((x.rests.map (ints .u64)).set i []) :: ownS T.slice_uint64 1 (.slice (some ⟨p4, 0, none⟩) vl vc) vs :: G)) (rl) ⟨0, (st.1, st.2, i), rfl, by omega, rfl, (Nat.lt_of_lt_of_le hi (Nat.le_add_right _ _)), rfl, h.pm6⟩ ?_
      clear h
      rintro lm le w ⟨j, s3, rfl, hi0, hi1, hi2, rfl, h⟩ ih2
      by_cases hj : j < rl
      · obtain ⟨y, hy⟩ := has_elem (show j < r.length by omega)
        have hyb := hrb i r y hr (List.mem_of_getElem? hy)
        have hgy : r.getD j 0 = y := by rw [List.getD_eq_getElem?_getD, hy]; rfl
        have hjl : (r.take j).length = j := by rw [List.length_take]; omega
        have hput : layR x.nb (st.1, st.2, i) 0 (r.take (j + 1)) = putW x.nb s3 j y := by
          rw [take_next hy, layR_append, ← hi1, hjl, Nat.zero_add]
          rfl
        have hcp2 : (putW x.nb s3 j y).2.1 ≤ x.sp := by
          rw [← hput]
          refine Nat.le_trans ?_ hcp
          conv => rhs; rw [← List.take_append_drop (j + 1) r, layR_append]
          exact layR_mono
        have hrl8 := hrlen i r hr
        have hs3l : s3.1.length = x.row.ws.length := by rw [hi1, layR_length]; exact hsl
        have hall : x.all = x.nb + x.sp := rfl
        have hsp2 := hok.sp
        obtain ⟨pr, rfl⟩ := ownS_addr (E := T.uint64) h (.there (.there (.there .here))) (by omega)
        have hsi : ∀ (ws : List Int) (n : Nat) (v : Int), n < ws.length → RowM.store { x.row with ws := ws } (n : Int) v = { x.row with ws := ws.set n v } := fun ws n v hn => by
          unfold RowM.store
          simp only
          rw [if_pos ⟨by omega, by omega⟩, Int.toNat_natCast]
        by_cases hc7 : j ≠ 0 ∧ j % 7 = 0
        · have hpe : putW x.nb s3 j y = ((s3.1.set (s3.2.2 * 8 + 7) ((x.nb + s3.2.1 : Nat) + 1 : Int)).set ((x.nb + s3.2.1) * 8 + j % 7) y, s3.2.1 + 1, x.nb + s3.2.1) := by rw [putW, if_pos hc7]
          rw [hpe] at hcp2 hput
          simp only at hcp2
          have hspx : SpOk { x with row := { x.row with ws := s3.1 }, tk := { x.tk with ws := [(s3.2.1 : Int)] } } := ⟨hok.may, hok.sp, rfl, by unfold IdxM.taken; simp; omega⟩
          have hspr : spareX { x with row := { x.row with ws := s3.1 }, tk := { x.tk with ws := [(s3.2.1 : Int)] } } = (((x.nb : Int) + s3.2.1, 0), { x with row := { x.row with ws := s3.1 }, tk := { x.tk with ws := [((s3.2.1 + 1 : Nat) : Int)] } }) := by
            have e1 : IdxM.taken { x with row := { x.row with ws := s3.1 }, tk := { x.tk with ws := [(s3.2.1 : Int)] } } = s3.2.1 := by unfold IdxM.taken; simp
            have e2 : RowM.add { x.tk with ws := [(s3.2.1 : Int)] } 0 1 = { x.tk with ws := [((s3.2.1 + 1 : Nat) : Int)] } := by
              unfold RowM.add
              rw [if_pos ⟨by omega, by simp⟩]
              have e3 : ((s3.2.1 : Int) + 1) % 18446744073709551616 = ((s3.2.1 + 1 : Nat) : Int) := by omega
              simp [e3]
            unfold spareX
            rw [e1, e2, if_neg (by simp only; omega)]
          have ea1 : (s3.2.2 : Int) * 8 + 7 = ((s3.2.2 * 8 + 7 : Nat) : Int) := by omega
          have ea2 : ((x.nb : Int) + s3.2.1) * 8 + (j : Int) % 7 = (((x.nb + s3.2.1) * 8 + j % 7 : Nat) : Int) := by omega
          have ea3 : (x.nb : Int) + s3.2.1 + 1 = ((x.nb + s3.2.1 : Nat) + 1 : Int) := by omega
          repeat' (first | (refine gL ?_; refine p_val rfl (g_ldI (i := j) rfl (ownS_rd h (.there (.there (.there .here)))) (by omega) (by omega)) ?_; rw [hgy]) | (refine gC F.index_Index_Spare ?_; refine p_call rfl rfl (index_Index_Spare_spec (x := { x with row := { x.row with ws := s3.1 }, tk := { x.tk with ws := [(s3.2.1 : Int)] } }) hspx (h.rf3)) ?_; rw [hspr]; rintro _ w ⟨rfl, h⟩) | refine stP ?_ | (refine stC0_P17d ?_; rintro _ w ⟨rfl, h⟩) | (refine stC1_P17d ?_; rintro v w h) | (refine stC2_P17d ?_; rintro _ w ⟨bx, rfl, h⟩) | (refine stD3_P17d ?_; rintro _ w ⟨rfl, h⟩ <;> refine nowa ?_) | (refine p_cmp rfl rfl rfl rfl (fun hc => ?_) (fun hc => ?_) <;> simp only [cmpProp] at hc) | (refine r_cmp rfl rfl rfl rfl rfl (fun hc => ?_) (fun hc => ?_) <;> simp only [cmpProp] at hc) | (refine x_drawn rfl ?_; have h := h.drew) | refine x_drawn rfl ?_ | fail)
          simp only [ea1, ea2, ea3] at h
          rw [hsi _ _ _ (by omega), hsi _ _ _ (by rw [List.length_set]; omega)] at h
          exact x_keep [0, 3, 13, 90, 91, 92, 98, 99, 100] rfl (ih2 _ _ _ (by omega) ⟨j + 1, _, rfl, by omega, hput.symm, Nat.lt_succ_self _, rfl, h.pm6⟩)
        · have hpe : putW x.nb s3 j y = (s3.1.set (s3.2.2 * 8 + j % 7) y, s3.2.1, s3.2.2) := by rw [putW, if_neg hc7]
          rw [hpe] at hcp2 hput
          simp only at hcp2
          have ea2 : (s3.2.2 : Int) * 8 + (j : Int) % 7 = ((s3.2.2 * 8 + j % 7 : Nat) : Int) := by omega
          repeat' (first | (refine gL ?_; refine p_val rfl (g_ldI (i := j) rfl (ownS_rd h (.there (.there (.there .here)))) (by omega) (by omega)) ?_; rw [hgy]) | refine stP ?_ | (refine stC0_P17d ?_; rintro _ w ⟨rfl, h⟩) | (refine stC1_P17d ?_; rintro v w h) | (refine stC2_P17d ?_; rintro _ w ⟨bx, rfl, h⟩) | (refine stD3_P17d ?_; rintro _ w ⟨rfl, h⟩ <;> refine nowa ?_) | (refine p_cmp rfl rfl rfl rfl (fun hc => ?_) (fun hc => ?_) <;> simp only [cmpProp] at hc) | (refine r_cmp rfl rfl rfl rfl rfl (fun hc => ?_) (fun hc => ?_) <;> simp only [cmpProp] at hc) | (refine x_drawn rfl ?_; have h := h.drew) | refine x_drawn rfl ?_ | fail)
          all_goals
            simp only [ea2] at h
            rw [hsi _ _ _ (by omega)] at h
            exact x_keep [0, 3, 13, 90, 91, 92, 98, 99, 100] rfl (ih2 _ _ _ (by omega) ⟨j + 1, _, rfl, by omega, hput.symm, hi2, rfl, h.pm6⟩)
      · obtain rfl : j = rl := by omega
        rw [List.take_of_length_le (by omega)] at hi1
        subst hi1
        repeat' (first | refine stPs ?_ | (refine stC0_P17d ?_; rintro _ w ⟨rfl, h⟩) | (refine stC1_P17d ?_; rintro v w h) | (refine stC2_P17d ?_; rintro _ w ⟨bx, rfl, h⟩) | (refine stD3_P17d ?_; rintro _ w ⟨rfl, h⟩ <;> refine nowa ?_) | (refine p_cmp rfl rfl rfl rfl (fun hc => ?_) (fun hc => ?_) <;> simp only [cmpProp] at hc) | (refine r_cmp rfl rfl rfl rfl rfl (fun hc => ?_) (fun hc => ?_) <;> simp only [cmpProp] at hc) | (refine x_drawn rfl ?_; have h := h.drew) | refine x_drawn rfl ?_ | fail)
        have h := ownAll_put (E := T.uint64) (n := 1) (vs := vs) (cs := x.rests.map (ints .u64)) (i := i) (v := .slice ra j rc) (c := ints .u64 r) (by omega) (by rw [List.length_map]; omega) (h.rf2)
        rw [set_same hvi, set_same (by rw [List.getElem?_map, hr]; rfl)] at h
        exact x_keep [0, 3, 90, 91, 92] rfl (ih _ _ _ (by omega) ⟨i + 1, _, rfl, by omega, hst1.symm, rfl, h.pm5⟩)
    · obtain rfl : i = x.nb := by omega
      rw [List.take_of_length_le (by omega)] at hi1
      subst hi1
      repeat' (first | refine stPs ?_ | (refine stC0_P17d ?_; rintro _ w ⟨rfl, h⟩) | (refine stC1_P17d ?_; rintro v w h) | (refine stC2_P17d ?_; rintro _ w ⟨bx, rfl, h⟩) | (refine stD3_P17d ?_; rintro _ w ⟨rfl, h⟩ <;> refine nowa ?_) | (refine p_cmp rfl rfl rfl rfl (fun hc => ?_) (fun hc => ?_) <;> simp only [cmpProp] at hc) | (refine r_cmp rfl rfl rfl rfl rfl (fun hc => ?_) (fun hc => ?_) <;> simp only [cmpProp] at hc) | (refine x_drawn rfl ?_; have h := h.drew) | refine x_drawn rfl ?_ | fail)
      exact x_ret' is_index_Index_Drop rfl ⟨rfl, h.pm3⟩
end
end Go.Proofs.Ytmlkeackapflhaa
