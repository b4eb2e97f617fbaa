/- Layer 12 (pages): a call on both: a word. -/
import Derived.Test.YtfchenbihepjaaaHxS
import Derived.Test.YtfchenbihepjaaaP12e
import Derived.Test.YtfchenbihepjaaaL12e
namespace Go.Proofs.Ytfchenbihepjaaa
open Go Go.HX
attribute [local irreducible] Ret XRun XOps XDr XOne Does Gives
set_option maxRecDepth 4000
set_option maxHeartbeats 1000000
theorem stC0_P12f {goal next : Prop} (k : next) (hs : Hid next → goal := by (intro k; (first | (refine gC F.ref12_Buffer_Run ?_; refine p_call rfl rfl (ref12_Buffer_Run_spec _ _ ?_ ?_ ?_ (h.rf2)) ?_; iterate 3 (first | assumption | omega | (simp only []; omega) | decide)) | (refine gC F.pages_Buffer_Load ?_; refine p_call rfl rfl (pages_Buffer_Load_spec _ ?_ ?_ ?_ (h.rf3)) ?_; iterate 3 (first | assumption | omega | (simp only []; omega) | decide)) | (refine gC F.pages_Buffer_Load ?_; refine p_call rfl rfl (pages_Buffer_Load_nil _ h) ?_) | (refine gC F.pages_Buffer_Store ?_; refine p_call rfl rfl (pages_Buffer_Store_spec _ _ ?_ ?_ ?_ ?_ ?_ (h.rf3)) ?_; iterate 5 (first | assumption | omega | (simp only []; omega) | decide)) | (refine gC F.pages_Buffer_Store ?_; refine p_call rfl rfl (pages_Buffer_Store_nil _ _ h) ?_) | (refine gC F.pages_Buffer_CAS ?_; refine p_call rfl rfl (pages_Buffer_CAS_spec _ _ _ ?_ ?_ ?_ ?_ ?_ (h.rf3)) ?_; iterate 5 (first | assumption | omega | (simp only []; omega) | decide)) | (refine gC F.pages_Buffer_CAS ?_; refine p_call rfl rfl (pages_Buffer_CAS_nil _ _ _ h) ?_) | (refine gC F.pages_Buffer_Words ?_; refine p_call rfl rfl (pages_Buffer_Words_nil _ _ h) ?_) | (refine gC F.pages_Buffer_Fill ?_; refine p_call rfl rfl (pages_Buffer_Fill_nil _ h) ?_) | (refine gC F.pages_Buffer_Page ?_; refine p_call rfl rfl (pages_Buffer_Page_nil _ h) ?_) | (refine gC F.ref12_Buffer_At ?_; refine p_call rfl rfl (ref12_Buffer_At_spec _ ?_ (h.rf2)) ?_; iterate 1 (first | assumption | omega | (simp only []; omega) | decide)) | fail); exact k.out)) : goal := hs ⟨k⟩
theorem stC1_P12f {goal next : Prop} (k : next) (hs : Hid next → goal := by (intro k; (first | (refine gC F.pages_Buffer_Words ?_; refine p_call rfl rfl (pages_Buffer_Words_spec _ _ ?_ ?_ ?_ _ ?_ ?_ (h.rf3)) ?_; iterate 5 (first | assumption | omega | (simp only []; omega) | decide)) | (refine gC F.pages_Buffer_Page ?_; refine p_call rfl rfl (pages_Buffer_Page_spec _ ?_ ?_ _ (h.rf3)) ?_; iterate 2 (first | assumption | omega | (simp only []; omega) | decide)) | fail); exact k.out)) : goal := hs ⟨k⟩
theorem stC2_P12f {goal next : Prop} (k : next) (hs : Hid next → goal := by (intro k; (first | (refine gBx ?_; refine p_do rfl (d_boxL rfl h (by first | (dsimp only [Value.cells]; done) | exact rfl)) ?_) | fail); exact k.out)) : goal := hs ⟨k⟩
theorem stD3_P12f {goal next : Prop} (k : next) (hs : Hid next → goal := by (intro k; (first | (refine gCR F.pages_Buffer_Open ?_; refine r_call rfl rfl rfl (pages_Buffer_Open_spec _ ?_ ?_ (h.rf3)) ?_; iterate 2 (first | assumption | omega | (simp only []; omega) | decide)) | (refine gCR F.pages_Buffer_Open ?_; refine r_call rfl rfl rfl (pages_Buffer_Open_nil _ h) ?_) | (refine gCR F.pages_Buffer_Close ?_; refine r_call rfl rfl rfl (pages_Buffer_Close_spec _ ?_ ?_ (h.rf3)) ?_; iterate 2 (first | assumption | omega | (simp only []; omega) | decide)) | (refine gCR F.pages_Buffer_Close ?_; refine r_call rfl rfl rfl (pages_Buffer_Close_nil _ h) ?_) | (refine gSR ?_; (first | refine r_do rfl rfl (d_stwL rfl rfl rfl rfl rfl (h.pick (by repeat first | exact .here | apply Has.there)) (by first | (dsimp only [Value.cells]; done) | exact rfl)) ?_ | refine r_do rfl rfl (d_stL rfl rfl rfl (h.pick (by repeat first | exact .here | apply Has.there)) (by first | exact of_decide_eq_true rfl | simp) (by first | (dsimp only [List.set]; done) | exact rfl)) ?_)) | fail); exact k.out)) : goal := hs ⟨k⟩
theorem stD4_P12f {goal next : Prop} (k : next) (hs : Hid next → goal := by (intro k; (first | (refine gCR F.ref12_Buffer_Close ?_; refine r_call rfl rfl rfl (ref12_Buffer_Close_spec _ ?_ ?_ (h.rf2)) ?_; iterate 2 (first | assumption | omega | (simp only []; omega) | decide)) | fail); exact k.out)) : goal := hs ⟨k⟩
section
variable {S : SP} {w : World} {G : List HProp}
theorem bigH_back {α : Type} {f : α → HProp} {xs : List α} {i : Nat} {x : α} (hx : xs[i]? = some x) (h : Sat S w (f x :: bigH f (xs.eraseIdx i) :: G)) : Sat S w (bigH f xs :: G) := by
  obtain ⟨hi, he⟩ := List.getElem?_eq_some_iff.1 hx
  have h := bigH_put hi h
  rw [← he, List.set_getElem_self] at h
  exact h
theorem eraseIdx_set' {α : Type} : ∀ (xs : List α) (i : Nat) (x : α), (xs.set i x).eraseIdx i = xs.eraseIdx i
  | [], _, _ => rfl
  | _ :: _, 0, _ => rfl
  | y :: ys, i + 1, x => by
    show y :: (ys.set i x).eraseIdx i = y :: ys.eraseIdx i
    rw [eraseIdx_set' ys i x]
theorem rows_set_same {os : List OneM} {k : Nat} {o : OneM} {l : List Int} (ho : os[k]? = some o) : rows oneC (os.set k { o with l := l }) = rows oneC os := by
  obtain ⟨hi, he⟩ := List.getElem?_eq_some_iff.1 ho
  have e : ∀ m : List OneM, m.map oneC = (m.map fun y => oneC { y with l := [] }) := fun m => by simp [oneC, OneM.v]
  have e1 : (os.set k { o with l := l }).map oneC = os.map oneC := by
    rw [List.map_set]
    have e2 : oneC { o with l := l } = (os.map oneC)[k]'(by simpa using hi) := by rw [List.getElem_map, he]; rfl
    rw [e2, List.set_getElem_self]
  unfold rows
  rw [List.flatMap_def, List.flatMap_def, e1]

set_option maxHeartbeats 16000000 in
theorem law12_does_load {b c d mb : Nat} {x : BufM} {os : List OneM} {lv : Value} {bits fr : Int} {a : Act12} (hb : bits = x.bits) (hk : a.kind = 3) (ha : Act12Ok a) (hr : Rel12 x os) (h : Sat S w (pt b (.cells (bufC (x) c d) T.pages_Buffer (0, 0)) :: isRow c (x).wr :: isRow d (x).hr :: pt mb (.cells #[.int .i64 bits, .int .i64 fr, lv] T.haycroftref12_Buffer (0, 0)) :: ownS T.haycroftref12_One 2 lv (rows oneC (os)) :: bigH oneH os :: G)) :
    Ret Try.prog F.law12_does #[.pointer (some ⟨b, 0, none⟩), .pointer (some ⟨mb, 0, none⟩), .agg (act12C a).toArray] w (fun v w' => v = .bool true ∧ Sat S w' (pt b (.cells (bufC (x) c d) T.pages_Buffer (0, 0)) :: isRow c (x).wr :: isRow d (x).hr :: pt mb (.cells #[.int .i64 bits, .int .i64 fr, lv] T.haycroftref12_Buffer (0, 0)) :: ownS T.haycroftref12_One 2 lv (rows oneC (os)) :: bigH oneH os :: G)) := by
  obtain ⟨kd, p, ad, n, old, wv, va, vl, vc, al⟩ := a
  obtain ⟨hp, had, hold, hwv⟩ := ha
  simp only at hk hp had hold hwv
  subst hk
  subst hb
  have hok := hr.ok
  have hos := hr.len
  refine ret_of is_law12_does rfl ?_
  by_cases hin : x.isIn ad
  · have he := hr.run_one hin
    obtain ⟨_, hn1, k, o, hok2, e1, e2, hpo, hcell⟩ := hr.run_ok he
    have hoff := hr.offs had.1 hin.1 hn1
    have hol := hr.olen hok2
    have hcb := cell_bnd hok ad
    have hwd := hr.word hok2 hcell ⟨hoff.1, hoff.2.1⟩
    have hst := fun z => hr.set (z := z) hok2 hcell ⟨hoff.1, hoff.2.1⟩
    have hkl := (List.getElem?_eq_some_iff.1 hok2).1
    obtain ⟨la, ll, lc, rfl, hll, _⟩ := ownS_slice h (.there (.there (.there (.there .here))))
    rw [rows_length oneC_len] at hll
    obtain ⟨la, rfl⟩ := ownS_addr (E := T.haycroftref12_One) h (.there (.there (.there (.there .here)))) (by omega)
    have h := bigH_take hok2 (h.pick (.there (.there (.there (.there (.there .here))))))
    obtain ⟨opg, ova, ovl, ovc, ol⟩ := o
    have h : Sat S w (ownS T.uint64 1 (.slice ova ovl ovc) (ints .u64 ol) :: _) := h
    simp only at hol hwd hcell hpo hst
    obtain ⟨_, _, _, ev, hvl, _⟩ := ownS_slice h .here
    cases ev
    rw [ints_length] at hvl
    obtain ⟨oa, rfl⟩ := ownS_addr (E := T.uint64) h .here (by omega)
    obtain ⟨of, hof⟩ := Int.eq_ofNat_of_zero_le hoff.1
    rw [hof] at e2 hoff
    rw [hof, Int.toNat_natCast] at hwd
    simp only [hof, Int.toNat_natCast] at hst
    have hld : x.wr.load (x.cell ad) = ol.getD of 0 := by rw [RowM.load, if_pos (by omega), hwd]
    repeat' (first | (refine gC F.ref12_Buffer_Run ?_; refine p_call rfl rfl (ref12_Buffer_Run_spec (bits := x.bits) (fr := fr) (os := os) ad 1 had.1 had.2 (by omega) (h.rf2)) ?_; rw [e1, e2, he]; rintro _ w ⟨rfl, h⟩) | (refine gC F.pages_Buffer_Load ?_; refine p_call rfl rfl (pages_Buffer_Load_spec (x := x) ad had.1 had.2 hok (h.rf3)) ?_; rw [if_pos hin, if_pos hin, hld]; rintro _ w ⟨rfl, h⟩) | (refine gL ?_; refine p_val rfl (g_ldF (i := k) (f := 1) (u := .slice (some ⟨oa, 0, none⟩) ovl ovc) oneC_len rfl (ownS_rd h (by repeat first | exact .here | apply Has.there)) hok2 rfl (by omega)) ?_) | (refine gL ?_; refine p_val rfl (g_ldI (i := of) (xs := ol) rfl (ownS_rd h (by repeat first | exact .here | apply Has.there)) (by omega) (by omega)) ?_) | refine stP ?_ | (refine stC0_P12f ?_; rintro _ w ⟨rfl, h⟩) | (refine stC1_P12f ?_; rintro _ w ⟨u, rfl, h⟩) | (refine stC2_P12f ?_; rintro _ w ⟨bx, rfl, h⟩) | (refine stD3_P12f ?_; rintro _ w ⟨rfl, h⟩ <;> refine nowa ?_) | (refine stD4_P12f ?_; rintro _ w ⟨rfl, ⟨lv, h⟩⟩ <;> refine nowa ?_) | (refine p_cmp rfl rfl rfl rfl (fun hc => ?_) (fun hc => ?_) <;> simp only [cmpProp] at hc) | (refine r_cmp rfl rfl rfl rfl rfl (fun hc => ?_) (fun hc => ?_) <;> simp only [cmpProp] at hc) | (refine x_drawn rfl ?_; have h := h.drew) | refine x_drawn rfl ?_ | fail)
    have h := bigH_back (f := oneH) hok2 (h.rf2)
    exact x_ret' is_law12_does rfl ⟨rfl, h.pm6⟩
  · have he := hr.run_none 1 hin
    repeat' (first | (refine gC F.ref12_Buffer_Run ?_; refine p_call rfl rfl (ref12_Buffer_Run_spec (bits := x.bits) (fr := fr) (os := os) ad 1 had.1 had.2 (by omega) (h.rf2)) ?_; rw [he]; rintro _ w ⟨rfl, h⟩) | (refine gC F.pages_Buffer_Load ?_; refine p_call rfl rfl (pages_Buffer_Load_spec (x := x) ad had.1 had.2 hok (h.rf3)) ?_; rw [if_neg hin, if_neg hin]; rintro _ w ⟨rfl, h⟩) | refine stP ?_ | (refine stC0_P12f ?_; rintro _ w ⟨rfl, h⟩) | (refine stC1_P12f ?_; rintro _ w ⟨u, rfl, h⟩) | (refine stC2_P12f ?_; rintro _ w ⟨bx, rfl, h⟩) | (refine stD3_P12f ?_; rintro _ w ⟨rfl, h⟩ <;> refine nowa ?_) | (refine stD4_P12f ?_; rintro _ w ⟨rfl, ⟨lv, h⟩⟩ <;> refine nowa ?_) | (refine p_cmp rfl rfl rfl rfl (fun hc => ?_) (fun hc => ?_) <;> simp only [cmpProp] at hc) | (refine r_cmp rfl rfl rfl rfl rfl (fun hc => ?_) (fun hc => ?_) <;> simp only [cmpProp] at hc) | (refine x_drawn rfl ?_; have h := h.drew) | refine x_drawn rfl ?_ | fail)
    exact x_ret' is_law12_does rfl ⟨rfl, h.pm6⟩

set_option maxHeartbeats 16000000 in
theorem law12_does_store {b c d mb : Nat} {x : BufM} {os : List OneM} {lv : Value} {bits fr : Int} {a : Act12} (hb : bits = x.bits) (hk : a.kind = 4) (ha : Act12Ok a) (hr : Rel12 x os) (h : Sat S w (pt b (.cells (bufC (x) c d) T.pages_Buffer (0, 0)) :: isRow c (x).wr :: isRow d (x).hr :: pt mb (.cells #[.int .i64 bits, .int .i64 fr, lv] T.haycroftref12_Buffer (0, 0)) :: ownS T.haycroftref12_One 2 lv (rows oneC (os)) :: bigH oneH os :: G)) :
    Ret Try.prog F.law12_does #[.pointer (some ⟨b, 0, none⟩), .pointer (some ⟨mb, 0, none⟩), .agg (act12C a).toArray] w (fun v w' => v = .bool true ∧ ∃ x' os' lv, Rel12 x' os' ∧ x'.bits = x.bits ∧ x'.hr.ws.length = x.hr.ws.length ∧ Sat S w' (pt b (.cells (bufC (x') c d) T.pages_Buffer (0, 0)) :: isRow c (x').wr :: isRow d (x').hr :: pt mb (.cells #[.int .i64 bits, .int .i64 fr, lv] T.haycroftref12_Buffer (0, 0)) :: ownS T.haycroftref12_One 2 lv (rows oneC (os')) :: bigH oneH os' :: G)) := by
  obtain ⟨kd, p, ad, n, old, wv, va, vl, vc, al⟩ := a
  obtain ⟨hp, had, hold, hwv⟩ := ha
  simp only at hk hp had hold hwv
  subst hk
  subst hb
  have hok := hr.ok
  have hos := hr.len
  refine ret_of is_law12_does rfl ?_
  by_cases hin : x.isIn ad
  · have he := hr.run_one hin
    obtain ⟨_, hn1, k, o, hok2, e1, e2, hpo, hcell⟩ := hr.run_ok he
    have hoff := hr.offs had.1 hin.1 hn1
    have hol := hr.olen hok2
    have hcb := cell_bnd hok ad
    have hwd := hr.word hok2 hcell ⟨hoff.1, hoff.2.1⟩
    have hst := fun z => hr.set (z := z) hok2 hcell ⟨hoff.1, hoff.2.1⟩
    have hkl := (List.getElem?_eq_some_iff.1 hok2).1
    obtain ⟨la, ll, lc, rfl, hll, _⟩ := ownS_slice h (.there (.there (.there (.there .here))))
    rw [rows_length oneC_len] at hll
    obtain ⟨la, rfl⟩ := ownS_addr (E := T.haycroftref12_One) h (.there (.there (.there (.there .here)))) (by omega)
    have h := bigH_take hok2 (h.pick (.there (.there (.there (.there (.there .here))))))
    obtain ⟨opg, ova, ovl, ovc, ol⟩ := o
    have h : Sat S w (ownS T.uint64 1 (.slice ova ovl ovc) (ints .u64 ol) :: _) := h
    simp only at hol hwd hcell hpo hst
    obtain ⟨_, _, _, ev, hvl, _⟩ := ownS_slice h .here
    cases ev
    rw [ints_length] at hvl
    obtain ⟨oa, rfl⟩ := ownS_addr (E := T.uint64) h .here (by omega)
    obtain ⟨of, hof⟩ := Int.eq_ofNat_of_zero_le hoff.1
    rw [hof] at e2 hoff
    rw [hof, Int.toNat_natCast] at hwd
    simp only [hof, Int.toNat_natCast] at hst
    repeat' (first | (refine gC F.ref12_Buffer_Run ?_; refine p_call rfl rfl (ref12_Buffer_Run_spec (bits := x.bits) (fr := fr) (os := os) ad 1 had.1 had.2 (by omega) (h.rf2)) ?_; rw [e1, e2, he]; rintro _ w ⟨rfl, h⟩) | (refine gC F.pages_Buffer_Store ?_; refine p_call rfl rfl (pages_Buffer_Store_spec (x := x) ad wv had.1 had.2 hwv.1 hwv.2 hok (h.rf3)) ?_; rw [if_pos hin, if_pos hin]; rintro _ w ⟨rfl, h⟩) | (refine gLR ?_; refine r_own rfl rfl rfl h (fun w h => g_ldF (i := k) (f := 1) (u := .slice (some ⟨oa, 0, none⟩) ovl ovc) oneC_len rfl (ownS_rd h (by repeat first | exact .here | apply Has.there)) hok2 rfl (by omega)) ?_) | (refine gSR ?_; refine r_do rfl rfl (d_stI (i := of) (xs := ol) rfl rfl (h.pick (by repeat first | exact .here | apply Has.there)) (by omega) (by omega)) ?_; rintro _ w ⟨rfl, h⟩; refine nowa ?_) | refine stP ?_ | (refine stC0_P12f ?_; rintro _ w ⟨rfl, h⟩) | (refine stC1_P12f ?_; rintro _ w ⟨u, rfl, h⟩) | (refine stC2_P12f ?_; rintro _ w ⟨bx, rfl, h⟩) | (refine stD3_P12f ?_; rintro _ w ⟨rfl, h⟩ <;> refine nowa ?_) | (refine stD4_P12f ?_; rintro _ w ⟨rfl, ⟨lv, h⟩⟩ <;> refine nowa ?_) | (refine p_cmp rfl rfl rfl rfl (fun hc => ?_) (fun hc => ?_) <;> simp only [cmpProp] at hc) | (refine r_cmp rfl rfl rfl rfl rfl (fun hc => ?_) (fun hc => ?_) <;> simp only [cmpProp] at hc) | (refine x_drawn rfl ?_; have h := h.drew) | refine x_drawn rfl ?_ | fail)
    have h : Sat S w (oneH ⟨opg, some ⟨oa, 0, none⟩, ovl, ovc, ol.set of wv⟩ :: bigH oneH (os.eraseIdx k) :: _) := h.rf2
    have h := bigH_put hkl h
    refine x_ret' is_law12_does rfl ⟨rfl, _, _, .slice (some ⟨la, 0, none⟩) ll lc, hst wv, rfl, rfl, ?_⟩
    rw [rows_set_same hok2]
    exact h.pm6
  · have he := hr.run_none 1 hin
    repeat' (first | (refine gC F.ref12_Buffer_Run ?_; refine p_call rfl rfl (ref12_Buffer_Run_spec (bits := x.bits) (fr := fr) (os := os) ad 1 had.1 had.2 (by omega) (h.rf2)) ?_; rw [he]; rintro _ w ⟨rfl, h⟩) | (refine gC F.pages_Buffer_Store ?_; refine p_call rfl rfl (pages_Buffer_Store_spec (x := x) ad wv had.1 had.2 hwv.1 hwv.2 hok (h.rf3)) ?_; rw [if_neg hin, if_neg hin]; rintro _ w ⟨rfl, h⟩) | refine stP ?_ | (refine stC0_P12f ?_; rintro _ w ⟨rfl, h⟩) | (refine stC1_P12f ?_; rintro _ w ⟨u, rfl, h⟩) | (refine stC2_P12f ?_; rintro _ w ⟨bx, rfl, h⟩) | (refine stD3_P12f ?_; rintro _ w ⟨rfl, h⟩ <;> refine nowa ?_) | (refine stD4_P12f ?_; rintro _ w ⟨rfl, ⟨lv, h⟩⟩ <;> refine nowa ?_) | (refine p_cmp rfl rfl rfl rfl (fun hc => ?_) (fun hc => ?_) <;> simp only [cmpProp] at hc) | (refine r_cmp rfl rfl rfl rfl rfl (fun hc => ?_) (fun hc => ?_) <;> simp only [cmpProp] at hc) | (refine x_drawn rfl ?_; have h := h.drew) | refine x_drawn rfl ?_ | fail)
    exact x_ret' is_law12_does rfl ⟨rfl, x, os, lv, hr, rfl, rfl, h.pm6⟩

set_option maxHeartbeats 16000000 in
theorem law12_does_cas {b c d mb : Nat} {x : BufM} {os : List OneM} {lv : Value} {bits fr : Int} {a : Act12} (hb : bits = x.bits) (hk : a.kind = 5) (ha : Act12Ok a) (hr : Rel12 x os) (h : Sat S w (pt b (.cells (bufC (x) c d) T.pages_Buffer (0, 0)) :: isRow c (x).wr :: isRow d (x).hr :: pt mb (.cells #[.int .i64 bits, .int .i64 fr, lv] T.haycroftref12_Buffer (0, 0)) :: ownS T.haycroftref12_One 2 lv (rows oneC (os)) :: bigH oneH os :: G)) :
    Ret Try.prog F.law12_does #[.pointer (some ⟨b, 0, none⟩), .pointer (some ⟨mb, 0, none⟩), .agg (act12C a).toArray] w (fun v w' => v = .bool true ∧ ∃ x' os' lv, Rel12 x' os' ∧ x'.bits = x.bits ∧ x'.hr.ws.length = x.hr.ws.length ∧ Sat S w' (pt b (.cells (bufC (x') c d) T.pages_Buffer (0, 0)) :: isRow c (x').wr :: isRow d (x').hr :: pt mb (.cells #[.int .i64 bits, .int .i64 fr, lv] T.haycroftref12_Buffer (0, 0)) :: ownS T.haycroftref12_One 2 lv (rows oneC (os')) :: bigH oneH os' :: G)) := by
  obtain ⟨kd, p, ad, n, old, wv, va, vl, vc, al⟩ := a
  obtain ⟨hp, had, hold, hwv⟩ := ha
  simp only at hk hp had hold hwv
  subst hk
  subst hb
  have hok := hr.ok
  have hos := hr.len
  refine ret_of is_law12_does rfl ?_
  by_cases hin : x.isIn ad
  · have he := hr.run_one hin
    obtain ⟨_, hn1, k, o, hok2, e1, e2, hpo, hcell⟩ := hr.run_ok he
    have hoff := hr.offs had.1 hin.1 hn1
    have hol := hr.olen hok2
    have hcb := cell_bnd hok ad
    have hwd := hr.word hok2 hcell ⟨hoff.1, hoff.2.1⟩
    have hst := fun z => hr.set (z := z) hok2 hcell ⟨hoff.1, hoff.2.1⟩
    have hkl := (List.getElem?_eq_some_iff.1 hok2).1
    obtain ⟨la, ll, lc, rfl, hll, _⟩ := ownS_slice h (.there (.there (.there (.there .here))))
    rw [rows_length oneC_len] at hll
    obtain ⟨la, rfl⟩ := ownS_addr (E := T.haycroftref12_One) h (.there (.there (.there (.there .here)))) (by omega)
    have h := bigH_take hok2 (h.pick (.there (.there (.there (.there (.there .here))))))
    obtain ⟨opg, ova, ovl, ovc, ol⟩ := o
    have h : Sat S w (ownS T.uint64 1 (.slice ova ovl ovc) (ints .u64 ol) :: _) := h
    simp only at hol hwd hcell hpo hst
    obtain ⟨_, _, _, ev, hvl, _⟩ := ownS_slice h .here
    cases ev
    rw [ints_length] at hvl
    obtain ⟨oa, rfl⟩ := ownS_addr (E := T.uint64) h .here (by omega)
    obtain ⟨of, hof⟩ := Int.eq_ofNat_of_zero_le hoff.1
    rw [hof] at e2 hoff
    rw [hof, Int.toNat_natCast] at hwd
    simp only [hof, Int.toNat_natCast] at hst
    have hcas : x.wr.cas (x.cell ad) old wv = if ol.getD of 0 = old then ⟨x.wr.ws.set (x.cell ad).toNat wv, IntKind.i64.wrap (x.wr.won + 1), x.wr.lost⟩ else ⟨x.wr.ws, x.wr.won, IntKind.i64.wrap (x.wr.lost + 1)⟩ := by
      rw [RowM.cas, if_pos ⟨hcb.1, hcb.2.1⟩, hwd]
    have hd : decide (x.isIn ad ∧ x.wr.ws.getD (x.cell ad).toNat 0 = old) = decide (ol.getD of 0 = old) := by
      congr 1
      rw [hwd]
      simp [hin]
    have hcall := fun (G : List HProp) (w : World) (h : Sat S w (pt b (.cells (bufC (x) c d) T.pages_Buffer (0, 0)) :: isRow c (x).wr :: isRow d (x).hr :: G)) => pages_Buffer_CAS_spec (x := x) ad old wv had.1 had.2 hwv.1 hwv.2 hok h
    rw [hd, if_pos hin, if_pos hin] at hcall
    by_cases hq : ol.getD of 0 = old
    · have h2 := rel_same (y := { x with wr := x.wr.cas (x.cell ad) old wv }) (hst wv) rfl rfl (by show (x.wr.cas (x.cell ad) old wv).ws = (x.wr.store (x.cell ad) wv).ws; rw [hcas, if_pos hq, RowM.store, if_pos ⟨hcb.1, hcb.2.1⟩])
      rw [decide_eq_true hq] at hcall
      repeat' (first | (refine gC F.ref12_Buffer_Run ?_; refine p_call rfl rfl (ref12_Buffer_Run_spec (bits := x.bits) (fr := fr) (os := os) ad 1 had.1 had.2 (by omega) (h.rf2)) ?_; rw [e1, e2, he]; rintro _ w ⟨rfl, h⟩) | (refine gC F.pages_Buffer_CAS ?_; refine p_call rfl rfl (hcall _ _ (h.rf3)) ?_; rintro _ w ⟨rfl, h⟩) | (refine gLR ?_; refine r_own rfl rfl rfl h (fun w h => g_ldF (i := k) (f := 1) (u := .slice (some ⟨oa, 0, none⟩) ovl ovc) oneC_len rfl (ownS_rd h (by repeat first | exact .here | apply Has.there)) hok2 rfl (by omega)) ?_) | (refine gLR ?_; refine r_own rfl rfl rfl h (fun w h => g_ldI (i := of) (xs := ol) rfl (ownS_rd h (by repeat first | exact .here | apply Has.there)) (by omega) (by omega)) ?_) | (refine gSR ?_; refine r_do rfl rfl (d_stI (i := of) (xs := ol) rfl rfl (h.pick (by repeat first | exact .here | apply Has.there)) (by omega) (by omega)) ?_; rintro _ w ⟨rfl, h⟩; refine nowa ?_) | refine stP ?_ | (refine stC0_P12f ?_; rintro _ w ⟨rfl, h⟩) | (refine stC1_P12f ?_; rintro _ w ⟨u, rfl, h⟩) | (refine stC2_P12f ?_; rintro _ w ⟨bx, rfl, h⟩) | (refine stD3_P12f ?_; rintro _ w ⟨rfl, h⟩ <;> refine nowa ?_) | (refine stD4_P12f ?_; rintro _ w ⟨rfl, ⟨lv, h⟩⟩ <;> refine nowa ?_) | (refine p_cmp rfl rfl rfl rfl (fun hc => ?_) (fun hc => ?_) <;> simp only [cmpProp] at hc) | (refine r_cmp rfl rfl rfl rfl rfl (fun hc => ?_) (fun hc => ?_) <;> simp only [cmpProp] at hc) | (refine x_drawn rfl ?_; have h := h.drew) | refine x_drawn rfl ?_ | fail)
      have h : Sat S w (oneH ⟨opg, some ⟨oa, 0, none⟩, ovl, ovc, ol.set of wv⟩ :: bigH oneH (os.eraseIdx k) :: _) := h.rf2
      have h := bigH_put hkl h
      refine x_ret' is_law12_does rfl ⟨rfl, _, _, .slice (some ⟨la, 0, none⟩) ll lc, h2, rfl, rfl, ?_⟩
      rw [rows_set_same hok2]
      exact h.pm6
    · have h2 := rel_same (y := { x with wr := x.wr.cas (x.cell ad) old wv }) hr rfl rfl (by show (x.wr.cas (x.cell ad) old wv).ws = x.wr.ws; rw [hcas, if_neg hq])
      rw [decide_eq_false hq] at hcall
      repeat' (first | (refine gC F.ref12_Buffer_Run ?_; refine p_call rfl rfl (ref12_Buffer_Run_spec (bits := x.bits) (fr := fr) (os := os) ad 1 had.1 had.2 (by omega) (h.rf2)) ?_; rw [e1, e2, he]; rintro _ w ⟨rfl, h⟩) | (refine gC F.pages_Buffer_CAS ?_; refine p_call rfl rfl (hcall _ _ (h.rf3)) ?_; rintro _ w ⟨rfl, h⟩) | (refine gLR ?_; refine r_own rfl rfl rfl h (fun w h => g_ldF (i := k) (f := 1) (u := .slice (some ⟨oa, 0, none⟩) ovl ovc) oneC_len rfl (ownS_rd h (by repeat first | exact .here | apply Has.there)) hok2 rfl (by omega)) ?_) | (refine gLR ?_; refine r_own rfl rfl rfl h (fun w h => g_ldI (i := of) (xs := ol) rfl (ownS_rd h (by repeat first | exact .here | apply Has.there)) (by omega) (by omega)) ?_) | (refine gSR ?_; refine r_do rfl rfl (d_stI (i := of) (xs := ol) rfl rfl (h.pick (by repeat first | exact .here | apply Has.there)) (by omega) (by omega)) ?_; rintro _ w ⟨rfl, h⟩; refine nowa ?_) | refine stP ?_ | (refine stC0_P12f ?_; rintro _ w ⟨rfl, h⟩) | (refine stC1_P12f ?_; rintro _ w ⟨u, rfl, h⟩) | (refine stC2_P12f ?_; rintro _ w ⟨bx, rfl, h⟩) | (refine stD3_P12f ?_; rintro _ w ⟨rfl, h⟩ <;> refine nowa ?_) | (refine stD4_P12f ?_; rintro _ w ⟨rfl, ⟨lv, h⟩⟩ <;> refine nowa ?_) | (refine p_cmp rfl rfl rfl rfl (fun hc => ?_) (fun hc => ?_) <;> simp only [cmpProp] at hc) | (refine r_cmp rfl rfl rfl rfl rfl (fun hc => ?_) (fun hc => ?_) <;> simp only [cmpProp] at hc) | (refine x_drawn rfl ?_; have h := h.drew) | refine x_drawn rfl ?_ | fail)
      have h := bigH_back (f := oneH) hok2 (h.rf2)
      exact x_ret' is_law12_does rfl ⟨rfl, _, os, _, h2, rfl, rfl, h.pm6⟩
  · have he := hr.run_none 1 hin
    repeat' (first | (refine gC F.ref12_Buffer_Run ?_; refine p_call rfl rfl (ref12_Buffer_Run_spec (bits := x.bits) (fr := fr) (os := os) ad 1 had.1 had.2 (by omega) (h.rf2)) ?_; rw [he]; rintro _ w ⟨rfl, h⟩) | (refine gC F.pages_Buffer_CAS ?_; refine p_call rfl rfl (pages_Buffer_CAS_spec (x := x) ad old wv had.1 had.2 hwv.1 hwv.2 hok (h.rf3)) ?_; rw [if_neg hin, if_neg hin, decide_eq_false (fun hx => hin hx.1)]; rintro _ w ⟨rfl, h⟩) | refine stP ?_ | (refine stC0_P12f ?_; rintro _ w ⟨rfl, h⟩) | (refine stC1_P12f ?_; rintro _ w ⟨u, rfl, h⟩) | (refine stC2_P12f ?_; rintro _ w ⟨bx, rfl, h⟩) | (refine stD3_P12f ?_; rintro _ w ⟨rfl, h⟩ <;> refine nowa ?_) | (refine stD4_P12f ?_; rintro _ w ⟨rfl, ⟨lv, h⟩⟩ <;> refine nowa ?_) | (refine p_cmp rfl rfl rfl rfl (fun hc => ?_) (fun hc => ?_) <;> simp only [cmpProp] at hc) | (refine r_cmp rfl rfl rfl rfl rfl (fun hc => ?_) (fun hc => ?_) <;> simp only [cmpProp] at hc) | (refine x_drawn rfl ?_; have h := h.drew) | refine x_drawn rfl ?_ | fail)
    exact x_ret' is_law12_does rfl ⟨rfl, x, os, lv, hr, rfl, rfl, h.pm6⟩
end
end Go.Proofs.Ytfchenbihepjaaa
