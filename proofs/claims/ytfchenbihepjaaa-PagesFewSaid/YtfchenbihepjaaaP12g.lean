/- Layer 12 (pages): a call on both: runs of words. -/
import Derived.Test.YtfchenbihepjaaaHxS
import Derived.Test.YtfchenbihepjaaaP12f
namespace Go.Proofs.Ytfchenbihepjaaa
open Go Go.HX
attribute [local irreducible] Ret XRun XOps XDr XOne Does Gives
set_option maxRecDepth 4000
set_option maxHeartbeats 1000000
theorem stC0_P12g {goal next : Prop} (k : next) (hs : Hid next → goal := by (intro k; (first | (refine gC F.ref12_Buffer_Run ?_; refine p_call rfl rfl (ref12_Buffer_Run_spec _ _ ?_ ?_ ?_ (h.rf2)) ?_; iterate 3 (first | assumption | omega | (simp only []; omega) | decide)) | (refine gC F.pages_Buffer_Load ?_; refine p_call rfl rfl (pages_Buffer_Load_spec _ ?_ ?_ ?_ (h.rf3)) ?_; iterate 3 (first | assumption | omega | (simp only []; omega) | decide)) | (refine gC F.pages_Buffer_Load ?_; refine p_call rfl rfl (pages_Buffer_Load_nil _ h) ?_) | (refine gC F.pages_Buffer_Store ?_; refine p_call rfl rfl (pages_Buffer_Store_spec _ _ ?_ ?_ ?_ ?_ ?_ (h.rf3)) ?_; iterate 5 (first | assumption | omega | (simp only []; omega) | decide)) | (refine gC F.pages_Buffer_Store ?_; refine p_call rfl rfl (pages_Buffer_Store_nil _ _ h) ?_) | (refine gC F.pages_Buffer_CAS ?_; refine p_call rfl rfl (pages_Buffer_CAS_spec _ _ _ ?_ ?_ ?_ ?_ ?_ (h.rf3)) ?_; iterate 5 (first | assumption | omega | (simp only []; omega) | decide)) | (refine gC F.pages_Buffer_CAS ?_; refine p_call rfl rfl (pages_Buffer_CAS_nil _ _ _ h) ?_) | (refine gC F.pages_Buffer_Words ?_; refine p_call rfl rfl (pages_Buffer_Words_nil _ _ h) ?_) | (refine gC F.pages_Buffer_Fill ?_; refine p_call rfl rfl (pages_Buffer_Fill_nil _ h) ?_) | (refine gC F.pages_Buffer_Page ?_; refine p_call rfl rfl (pages_Buffer_Page_nil _ h) ?_) | (refine gC F.ref12_Buffer_At ?_; refine p_call rfl rfl (ref12_Buffer_At_spec _ ?_ (h.rf2)) ?_; iterate 1 (first | assumption | omega | (simp only []; omega) | decide)) | fail); exact k.out)) : goal := hs ⟨k⟩
theorem stC1_P12g {goal next : Prop} (k : next) (hs : Hid next → goal := by (intro k; (first | (refine gC F.pages_Buffer_Words ?_; refine p_call rfl rfl (pages_Buffer_Words_spec _ _ ?_ ?_ ?_ _ ?_ ?_ (h.rf3)) ?_; iterate 5 (first | assumption | omega | (simp only []; omega) | decide)) | (refine gC F.pages_Buffer_Page ?_; refine p_call rfl rfl (pages_Buffer_Page_spec _ ?_ ?_ _ (h.rf3)) ?_; iterate 2 (first | assumption | omega | (simp only []; omega) | decide)) | fail); exact k.out)) : goal := hs ⟨k⟩
theorem stC2_P12g {goal next : Prop} (k : next) (hs : Hid next → goal := by (intro k; (first | (refine gBx ?_; refine p_do rfl (d_boxL rfl h (by first | (dsimp only [Value.cells]; done) | exact rfl)) ?_) | fail); exact k.out)) : goal := hs ⟨k⟩
theorem stD3_P12g {goal next : Prop} (k : next) (hs : Hid next → goal := by (intro k; (first | (refine gCR F.pages_Buffer_Open ?_; refine r_call rfl rfl rfl (pages_Buffer_Open_spec _ ?_ ?_ (h.rf3)) ?_; iterate 2 (first | assumption | omega | (simp only []; omega) | decide)) | (refine gCR F.pages_Buffer_Open ?_; refine r_call rfl rfl rfl (pages_Buffer_Open_nil _ h) ?_) | (refine gCR F.pages_Buffer_Close ?_; refine r_call rfl rfl rfl (pages_Buffer_Close_spec _ ?_ ?_ (h.rf3)) ?_; iterate 2 (first | assumption | omega | (simp only []; omega) | decide)) | (refine gCR F.pages_Buffer_Close ?_; refine r_call rfl rfl rfl (pages_Buffer_Close_nil _ h) ?_) | (refine gSR ?_; (first | refine r_do rfl rfl (d_stwL rfl rfl rfl rfl rfl (h.pick (by repeat first | exact .here | apply Has.there)) (by first | (dsimp only [Value.cells]; done) | exact rfl)) ?_ | refine r_do rfl rfl (d_stL rfl rfl rfl (h.pick (by repeat first | exact .here | apply Has.there)) (by first | exact of_decide_eq_true rfl | simp) (by first | (dsimp only [List.set]; done) | exact rfl)) ?_)) | fail); exact k.out)) : goal := hs ⟨k⟩
theorem stD4_P12g {goal next : Prop} (k : next) (hs : Hid next → goal := by (intro k; (first | (refine gCR F.ref12_Buffer_Close ?_; refine r_call rfl rfl rfl (ref12_Buffer_Close_spec _ ?_ ?_ (h.rf2)) ?_; iterate 2 (first | assumption | omega | (simp only []; omega) | decide)) | fail); exact k.out)) : goal := hs ⟨k⟩
section
variable {S : SP} {w : World} {G : List HProp}
theorem ints_seg (kd : IntKind) (l : List Int) (i n : Nat) : ((ints kd l).take ((i + n) * 1)).drop (i * 1) = ints kd ((l.drop i).take n) := by
  unfold ints
  rw [Nat.mul_one, Nat.mul_one, ← List.map_take, ← List.map_drop, List.drop_take, Nat.add_sub_cancel_left]
theorem sub_ints {va : Option Addr} {vl vc i n : Nat} {kd : IntKind} {l : List Int} (h : RdS w 1 (.slice va vl vc) (ints kd l)) (hi : i + n ≤ vl) : RdS w 1 (.slice (if vc = i then va else va.map (·.add (i * 1))) (i + n - i) (vc - i)) (ints kd ((l.drop i).take n)) := by
  have h1 := h.sub (l' := i) (h' := i + n) (by omega) hi
  rw [ints_seg] at h1
  exact h1

set_option maxHeartbeats 16000000 in
theorem law12_does_words {b c d mb : Nat} {x : BufM} {os : List OneM} {lv : Value} {bits fr : Int} {a : Act12} (hb : bits = x.bits) (hk : a.kind = 6) (ha : Act12Ok a) (hr : Rel12 x os) (h : Sat S w (pt b (.cells (bufC (x) c d) T.pages_Buffer (0, 0)) :: isRow c (x).wr :: isRow d (x).hr :: pt mb (.cells #[.int .i64 bits, .int .i64 fr, lv] T.haycroftref12_Buffer (0, 0)) :: ownS T.haycroftref12_One 2 lv (rows oneC (os)) :: bigH oneH os :: G)) :
    Ret Try.prog F.law12_does #[.pointer (some ⟨b, 0, none⟩), .pointer (some ⟨mb, 0, none⟩), .agg (act12C a).toArray] w (fun v w' => v = .bool true ∧ Sat S w' (pt b (.cells (bufC (x) c d) T.pages_Buffer (0, 0)) :: isRow c (x).wr :: isRow d (x).hr :: pt mb (.cells #[.int .i64 bits, .int .i64 fr, lv] T.haycroftref12_Buffer (0, 0)) :: ownS T.haycroftref12_One 2 lv (rows oneC (os)) :: bigH oneH os :: G)) := by
  obtain ⟨kd, p, ad, n, old, wv, va, vl, vc, al⟩ := a
  obtain ⟨hp, had, hold, hwv⟩ := ha
  simp only at hk hp had hold hwv
  subst hk
  subst hb
  have hok := hr.ok
  have hos := hr.len
  refine ret_of is_law12_does rfl ?_
  by_cases he : (runZ x.bits os ad n).2.2 = 0
  · obtain ⟨hin, hn1, k, o, hok2, e1, e2, hpo, hcell⟩ := hr.run_ok he
    have hoff := hr.offs had.1 hin.1 hn1
    have hol := hr.olen hok2
    have hcb := cell_bnd hok ad
    obtain ⟨nn, rfl⟩ := Int.eq_ofNat_of_zero_le (show 0 ≤ n by omega)
    have hwd := (hr.words (n := nn) hok2 hcell ⟨hoff.1, hoff.2.1⟩).1
    have hkl := (List.getElem?_eq_some_iff.1 hok2).1
    obtain ⟨la, ll, lc, rfl, hll, _⟩ := ownS_slice h (.there (.there (.there (.there .here))))
    rw [rows_length oneC_len] at hll
    obtain ⟨la, rfl⟩ := ownS_addr (E := T.haycroftref12_One) h (.there (.there (.there (.there .here)))) (by omega)
    have h := bigH_take hok2 (h.pick (.there (.there (.there (.there (.there .here))))))
    obtain ⟨opg, ova, ovl, ovc, ol⟩ := o
    have h : Sat S w (ownS T.uint64 1 (.slice ova ovl ovc) (ints .u64 ol) :: _) := h
    simp only at hol hwd hcell hpo
    obtain ⟨_, _, _, ev, hvl, hvc⟩ := ownS_slice h .here
    cases ev
    rw [ints_length] at hvl
    obtain ⟨of, hof⟩ := Int.eq_ofNat_of_zero_le hoff.1
    rw [hof] at e2 hoff
    rw [hof, Int.toNat_natCast] at hwd
    have hsl : ((ol.drop of).take nn).length ≤ 100000000 := by rw [List.length_take, List.length_drop]; omega
    repeat' (first | (refine gC F.ref12_Buffer_Run ?_; refine p_call rfl rfl (ref12_Buffer_Run_spec (bits := x.bits) (fr := fr) (os := os) ad nn had.1 had.2 (by omega) (h.rf2)) ?_; rw [e1, e2, he]; rintro _ w ⟨rfl, h⟩) | (refine gC F.ref12_Buffer_Run ?_; refine p_call rfl rfl (ref12_Buffer_Run_spec (bits := x.bits) (fr := fr) (os := os) ad 1 had.1 had.2 (by omega) (h.rf2)) ?_; rintro _ w ⟨rfl, h⟩) | (refine gC F.pages_Buffer_Words ?_; refine p_call rfl rfl (pages_Buffer_Words_spec (x := x) ad nn had.1 had.2 hok hin hn1.1 hn1.2 (h.rf3)) ?_; rw [Int.toNat_natCast, hwd]; rintro _ w ⟨u, rfl, h⟩; obtain ⟨ua, ul, uc, rfl, _, _⟩ := ownS_slice h .here) | (refine gLR ?_; refine r_own rfl rfl rfl h (fun w h => g_ldF (i := k) (f := 1) (u := .slice ova ovl ovc) oneC_len rfl (ownS_rd h (by repeat first | exact .here | apply Has.there)) hok2 rfl (by omega)) ?_) | (refine r_pure rfl rfl rfl (fun _ => g_slc (l' := of) (h' := of + nn) rfl rfl rfl rfl rfl (by omega) (by omega)) ?_) | (refine gCR F.ref01_Same ?_; refine r_call rfl rfl rfl (ref01_Same_spec ((ol.drop of).take nn) ((ol.drop of).take nn) (fun w h => ownS_rd h (by repeat first | exact .here | apply Has.there)) (fun w h => sub_ints (ownS_rd h (by repeat first | exact .here | apply Has.there)) (by omega)) hsl h) ?_; rintro _ w ⟨(⟨rfl, hb⟩ | ⟨rfl, hb⟩), h⟩; rotate_left; exact absurd rfl hb; refine nowa ?_) | refine stP ?_ | (refine stC0_P12g ?_; rintro _ w ⟨rfl, h⟩) | (refine stC1_P12g ?_; rintro _ w ⟨u, rfl, h⟩) | (refine stC2_P12g ?_; rintro _ w ⟨bx, rfl, h⟩) | (refine stD3_P12g ?_; rintro _ w ⟨rfl, h⟩ <;> refine nowa ?_) | (refine stD4_P12g ?_; rintro _ w ⟨rfl, ⟨lv, h⟩⟩ <;> refine nowa ?_) | (refine p_cmp rfl rfl rfl rfl (fun hc => ?_) (fun hc => ?_) <;> simp only [cmpProp] at hc) | (refine r_cmp rfl rfl rfl rfl rfl (fun hc => ?_) (fun hc => ?_) <;> simp only [cmpProp] at hc) | (refine x_drawn rfl ?_; have h := h.drew) | refine x_drawn rfl ?_ | fail)
    have h := bigH_back (f := oneH) hok2 (h.rf2)
    exact x_ret' is_law12_does rfl ⟨rfl, h.pm6⟩
  · have hre := hr.run_err ad n
    repeat' (first | (refine gC F.ref12_Buffer_Run ?_; refine p_call rfl rfl (ref12_Buffer_Run_spec (bits := x.bits) (fr := fr) (os := os) ad n had.1 had.2 (by omega) (h.rf2)) ?_; rintro _ w ⟨rfl, h⟩) | (refine gC F.ref12_Buffer_Run ?_; refine p_call rfl rfl (ref12_Buffer_Run_spec (bits := x.bits) (fr := fr) (os := os) ad 1 had.1 had.2 (by omega) (h.rf2)) ?_; rintro _ w ⟨rfl, h⟩) | (refine gC F.pages_Buffer_Words ?_; refine p_call rfl rfl (pages_Buffer_Words_bad (x := x) ad n had.1 had.2 hok (by rw [hre]; exact he) (h.rf3)) ?_; rw [hre]; rintro _ w ⟨rfl, h⟩) | refine stP ?_ | (refine stC0_P12g ?_; rintro _ w ⟨rfl, h⟩) | (refine stC1_P12g ?_; rintro _ w ⟨u, rfl, h⟩) | (refine stC2_P12g ?_; rintro _ w ⟨bx, rfl, h⟩) | (refine stD3_P12g ?_; rintro _ w ⟨rfl, h⟩ <;> refine nowa ?_) | (refine stD4_P12g ?_; rintro _ w ⟨rfl, ⟨lv, h⟩⟩ <;> refine nowa ?_) | (refine p_cmp rfl rfl rfl rfl (fun hc => ?_) (fun hc => ?_) <;> simp only [cmpProp] at hc) | (refine r_cmp rfl rfl rfl rfl rfl (fun hc => ?_) (fun hc => ?_) <;> simp only [cmpProp] at hc) | (refine x_drawn rfl ?_; have h := h.drew) | refine x_drawn rfl ?_ | fail)
    exact x_ret' is_law12_does rfl ⟨rfl, h.pm6⟩

set_option maxHeartbeats 16000000 in
theorem law12_does_fill {b c d mb : Nat} {x : BufM} {os : List OneM} {lv : Value} {bits fr : Int} {a : Act12} (hb : bits = x.bits) (hk : a.kind = 7) (ha : Act12Ok a) (hal : ∀ z ∈ a.l, 0 ≤ z ∧ z ≤ 18446744073709551615) (hL : ∀ H w, Sat S w H → RdS w 1 (.slice a.va a.vl a.vc) (ints .u64 a.l)) (hr : Rel12 x os) (h : Sat S w (pt b (.cells (bufC (x) c d) T.pages_Buffer (0, 0)) :: isRow c (x).wr :: isRow d (x).hr :: pt mb (.cells #[.int .i64 bits, .int .i64 fr, lv] T.haycroftref12_Buffer (0, 0)) :: ownS T.haycroftref12_One 2 lv (rows oneC (os)) :: bigH oneH os :: G)) :
    Ret Try.prog F.law12_does #[.pointer (some ⟨b, 0, none⟩), .pointer (some ⟨mb, 0, none⟩), .agg (act12C a).toArray] w (fun v w' => v = .bool true ∧ ∃ x' os' lv, Rel12 x' os' ∧ x'.bits = x.bits ∧ x'.hr.ws.length = x.hr.ws.length ∧ Sat S w' (pt b (.cells (bufC (x') c d) T.pages_Buffer (0, 0)) :: isRow c (x').wr :: isRow d (x').hr :: pt mb (.cells #[.int .i64 bits, .int .i64 fr, lv] T.haycroftref12_Buffer (0, 0)) :: ownS T.haycroftref12_One 2 lv (rows oneC (os')) :: bigH oneH os' :: G)) := by
  obtain ⟨kd, p, ad, n, old, wv, va, vl, vc, al⟩ := a
  obtain ⟨hp, had, hold, hwv⟩ := ha
  simp only at hk hp had hold hwv hal hL
  subst hk
  subst hb
  have hok := hr.ok
  have hos := hr.len
  have hvl := (hL _ _ h).ilen
  refine ret_of is_law12_does rfl ?_
  by_cases h6 : 600 < vl
  · repeat' (first | (refine gC F.ref12_Buffer_Run ?_; refine p_call rfl rfl (ref12_Buffer_Run_spec (bits := x.bits) (fr := fr) (os := os) ad 1 had.1 had.2 (by omega) (h.rf2)) ?_; rintro _ w ⟨rfl, h⟩) | refine stP ?_ | (refine stC0_P12g ?_; rintro _ w ⟨rfl, h⟩) | (refine stC1_P12g ?_; rintro _ w ⟨u, rfl, h⟩) | (refine stC2_P12g ?_; rintro _ w ⟨bx, rfl, h⟩) | (refine stD3_P12g ?_; rintro _ w ⟨rfl, h⟩ <;> refine nowa ?_) | (refine stD4_P12g ?_; rintro _ w ⟨rfl, ⟨lv, h⟩⟩ <;> refine nowa ?_) | (refine p_cmp rfl rfl rfl rfl (fun hc => ?_) (fun hc => ?_) <;> simp only [cmpProp] at hc) | (refine r_cmp rfl rfl rfl rfl rfl (fun hc => ?_) (fun hc => ?_) <;> simp only [cmpProp] at hc) | (refine x_drawn rfl ?_; have h := h.drew) | refine x_drawn rfl ?_ | fail)
    exact x_ret' is_law12_does rfl ⟨rfl, x, os, lv, hr, rfl, rfl, h.pm6⟩
  by_cases he : (runZ x.bits os ad vl).2.2 = 0
  · obtain ⟨hin, hn1, k, o, hok2, e1, e2, hpo, hcell⟩ := hr.run_ok he
    have hoff := hr.offs had.1 hin.1 hn1
    have hol := hr.olen hok2
    have hfl := hr.fill (l := al) hok2 hcell ⟨hoff.1, by omega⟩
    have hkl := (List.getElem?_eq_some_iff.1 hok2).1
    obtain ⟨la, ll, lc, rfl, hll, _⟩ := ownS_slice h (.there (.there (.there (.there .here))))
    rw [rows_length oneC_len] at hll
    obtain ⟨la, rfl⟩ := ownS_addr (E := T.haycroftref12_One) h (.there (.there (.there (.there .here)))) (by omega)
    have h := bigH_take hok2 (h.pick (.there (.there (.there (.there (.there .here))))))
    obtain ⟨opg, ova, ovl, ovc, ol⟩ := o
    have h : Sat S w (ownS T.uint64 1 (.slice ova ovl ovc) (ints .u64 ol) :: _) := h
    simp only at hol hcell hpo hfl
    obtain ⟨_, _, _, ev, hovl, _⟩ := ownS_slice h .here
    cases ev
    rw [ints_length] at hovl
    obtain ⟨oa, rfl⟩ := ownS_addr (E := T.uint64) h .here (by omega)
    obtain ⟨of, hof⟩ := Int.eq_ofNat_of_zero_le hoff.1
    rw [hof] at e2 hoff
    rw [hof, Int.toNat_natCast] at hfl
    repeat' (first | (refine gC F.ref12_Buffer_Run ?_; refine p_call rfl rfl (ref12_Buffer_Run_spec (bits := x.bits) (fr := fr) (os := os) ad vl had.1 had.2 (by omega) (h.rf2)) ?_; rw [e1, e2, he]; rintro _ w ⟨rfl, h⟩) | (refine gC F.ref12_Buffer_Run ?_; refine p_call rfl rfl (ref12_Buffer_Run_spec (bits := x.bits) (fr := fr) (os := os) ad 1 had.1 had.2 (by omega) (h.rf2)) ?_; rintro _ w ⟨rfl, h⟩) | (refine gC F.pages_Buffer_Fill ?_; refine p_call rfl rfl (pages_Buffer_Fill_spec (x := x) ad al had.1 had.2 hok hin (by omega) (by omega) hal (fun w h => hL _ w h) (h.rf3)) ?_; rintro _ w ⟨rfl, h⟩) | refine stP ?_ | (refine stC0_P12g ?_; rintro _ w ⟨rfl, h⟩) | (refine stC1_P12g ?_; rintro _ w ⟨u, rfl, h⟩) | (refine stC2_P12g ?_; rintro _ w ⟨bx, rfl, h⟩) | (refine stD3_P12g ?_; rintro _ w ⟨rfl, h⟩ <;> refine nowa ?_) | (refine stD4_P12g ?_; rintro _ w ⟨rfl, ⟨lv, h⟩⟩ <;> refine nowa ?_) | (refine p_cmp rfl rfl rfl rfl (fun hc => ?_) (fun hc => ?_) <;> simp only [cmpProp] at hc) | (refine r_cmp rfl rfl rfl rfl rfl (fun hc => ?_) (fun hc => ?_) <;> simp only [cmpProp] at hc) | (refine x_drawn rfl ?_; have h := h.drew) | refine x_drawn rfl ?_ | fail)
    obtain ⟨q, rfl⟩ : ∃ q, q = bx := ⟨bx, rfl⟩
    have e0 : fillRow ol of (al.take 0) = ol := by simp [fillRow]
    rw [← e0] at h
    refine x_keep [1, 5, 7, 8, 9, 18, 19] rfl ?_
    refine x_loop_inv (fun lm le w => ∃ (j : Nat), lm = vl - j ∧ j ≤ vl ∧ le = [(1, .pointer (some ⟨mb, 0, none⟩)), (5, .pointer (some ⟨q, 0, none⟩)), (7, .int .i64 k), (8, .int .i64 of), (9, .int .i64 0), (18, .int .i64 0), (19, .int .i64 j)] ∧ Sat S w (ownS T.uint64 1 (.slice (some ⟨oa, 0, none⟩) ovl ovc) (ints .u64 (fillRow ol of (al.take j))) :: pt q (.cells #[.int .i64 7, .int .i64 p, .int .u64 ad, .int .i64 n, .int .u64 old, .int .u64 wv, .slice va vl vc] T.haycroftlaw12_Act (0, 0)) :: bigH oneH (os.eraseIdx k) :: pt b (.cells (bufC ({ x with wr := { x.wr with ws := fillRow x.wr.ws (x.cell ad).toNat al } }) c d) T.pages_Buffer (0, 0)) :: isRow c ({ x with wr := { x.wr with ws := fillRow x.wr.ws (x.cell ad).toNat al } }).wr :: isRow d ({ x with wr := { x.wr with ws := fillRow x.wr.ws (x.cell ad).toNat al } }).hr :: pt mb (.cells #[.int .i64 x.bits, .int .i64 fr, .slice (some ⟨la, 0, none⟩) ll lc] T.haycroftref12_Buffer (0, 0)) :: ownS T.haycroftref12_One 2 (.slice (some ⟨la, 0, none⟩) ll lc) (rows oneC os) :: G)) (vl) ⟨0, rfl, by omega, rfl, h.pm8⟩ ?_
    clear h
    rintro lm le w ⟨j, rfl, hi0, rfl, h⟩ ih
    by_cases hj : j < vl
    · obtain ⟨z, hz⟩ := has_elem (show j < al.length by omega)
      have hgx : al.getD j 0 = z := by rw [List.getD_eq_getElem?_getD, hz]; rfl
      obtain ⟨pa, po, rfl⟩ := (hL _ _ h).addr (by omega)
      have hlj : (fillRow ol of (al.take j)).length = ol.length := fillRow_length (by rw [List.length_take]; omega)
      repeat' (first | (refine gLR ?_; first | (refine r_own rfl rfl rfl h (fun w h => g_ldF (i := k) (f := 1) (u := .slice (some ⟨oa, 0, none⟩) ovl ovc) oneC_len rfl (ownS_rd h (by repeat first | exact .here | apply Has.there)) hok2 rfl (by omega)) ?_) | (refine r_old rfl rfl rfl h (fun _ w h => g_ldI (i := j) rfl (hL _ w h) (by omega) (by omega)) ?_; rw [hgx])) | (refine gSR ?_; refine r_do rfl rfl (d_stI (i := of + j) (xs := fillRow ol of (al.take j)) rfl rfl (h.pick (by repeat first | exact .here | apply Has.there)) (by omega) (by omega)) ?_; rintro _ w ⟨rfl, h⟩; rw [fillRow_step (by omega) hz] at h; refine nowa ?_) | refine stP ?_ | (refine stC0_P12g ?_; rintro _ w ⟨rfl, h⟩) | (refine stC1_P12g ?_; rintro _ w ⟨u, rfl, h⟩) | (refine stC2_P12g ?_; rintro _ w ⟨bx, rfl, h⟩) | (refine stD3_P12g ?_; rintro _ w ⟨rfl, h⟩ <;> refine nowa ?_) | (refine stD4_P12g ?_; rintro _ w ⟨rfl, ⟨lv, h⟩⟩ <;> refine nowa ?_) | (refine p_cmp rfl rfl rfl rfl (fun hc => ?_) (fun hc => ?_) <;> simp only [cmpProp] at hc) | (refine r_cmp rfl rfl rfl rfl rfl (fun hc => ?_) (fun hc => ?_) <;> simp only [cmpProp] at hc) | (refine x_drawn rfl ?_; have h := h.drew) | refine x_drawn rfl ?_ | fail)
      exact x_keep [1, 5, 7, 8, 9, 18, 19] rfl (ih _ _ _ (by omega) ⟨j + 1, rfl, by omega, rfl, h.pm8⟩)
    · obtain rfl : j = vl := by omega
      rw [List.take_of_length_le (by omega)] at h
      repeat' (first | refine stPs ?_ | (refine stC0_P12g ?_; rintro _ w ⟨rfl, h⟩) | (refine stC1_P12g ?_; rintro _ w ⟨u, rfl, h⟩) | (refine stC2_P12g ?_; rintro _ w ⟨bx, rfl, h⟩) | (refine stD3_P12g ?_; rintro _ w ⟨rfl, h⟩ <;> refine nowa ?_) | (refine stD4_P12g ?_; rintro _ w ⟨rfl, ⟨lv, h⟩⟩ <;> refine nowa ?_) | (refine p_cmp rfl rfl rfl rfl (fun hc => ?_) (fun hc => ?_) <;> simp only [cmpProp] at hc) | (refine r_cmp rfl rfl rfl rfl rfl (fun hc => ?_) (fun hc => ?_) <;> simp only [cmpProp] at hc) | (refine x_drawn rfl ?_; have h := h.drew) | refine x_drawn rfl ?_ | fail)
      have h : Sat S w (oneH ⟨opg, some ⟨oa, 0, none⟩, ovl, ovc, fillRow ol of al⟩ :: bigH oneH (os.eraseIdx k) :: _) := h.rf2
      have h := bigH_put hkl h
      refine x_ret' is_law12_does rfl ⟨rfl, _, _, .slice (some ⟨la, 0, none⟩) ll lc, hfl, rfl, rfl, ?_⟩
      rw [rows_set_same hok2]
      exact h.pm6
  · have hre := hr.run_err ad vl
    repeat' (first | (refine gC F.ref12_Buffer_Run ?_; refine p_call rfl rfl (ref12_Buffer_Run_spec (bits := x.bits) (fr := fr) (os := os) ad vl had.1 had.2 (by omega) (h.rf2)) ?_; rintro _ w ⟨rfl, h⟩) | (refine gC F.ref12_Buffer_Run ?_; refine p_call rfl rfl (ref12_Buffer_Run_spec (bits := x.bits) (fr := fr) (os := os) ad 1 had.1 had.2 (by omega) (h.rf2)) ?_; rintro _ w ⟨rfl, h⟩) | (refine gC F.pages_Buffer_Fill ?_; refine p_call rfl rfl (pages_Buffer_Fill_bad (x := x) ad had.1 had.2 hok (by rw [hre]; exact he) (h.rf3)) ?_; rw [hre]; rintro _ w ⟨rfl, h⟩) | refine stP ?_ | (refine stC0_P12g ?_; rintro _ w ⟨rfl, h⟩) | (refine stC1_P12g ?_; rintro _ w ⟨u, rfl, h⟩) | (refine stC2_P12g ?_; rintro _ w ⟨bx, rfl, h⟩) | (refine stD3_P12g ?_; rintro _ w ⟨rfl, h⟩ <;> refine nowa ?_) | (refine stD4_P12g ?_; rintro _ w ⟨rfl, ⟨lv, h⟩⟩ <;> refine nowa ?_) | (refine p_cmp rfl rfl rfl rfl (fun hc => ?_) (fun hc => ?_) <;> simp only [cmpProp] at hc) | (refine r_cmp rfl rfl rfl rfl rfl (fun hc => ?_) (fun hc => ?_) <;> simp only [cmpProp] at hc) | (refine x_drawn rfl ?_; have h := h.drew) | refine x_drawn rfl ?_ | fail)
    obtain ⟨q, rfl⟩ : ∃ q, q = bx := ⟨bx, rfl⟩
    refine x_keep [1, 5, 7, 8, 9, 18, 19] rfl ?_
    refine x_loop_inv (fun lm le w => ∃ (j : Nat), lm = 1 + j ∧ j ≤ vl ∧ le = [(1, .pointer (some ⟨mb, 0, none⟩)), (5, .pointer (some ⟨q, 0, none⟩)), (7, .int .i64 (runZ x.bits os ad vl).1), (8, .int .i64 (runZ x.bits os ad vl).2.1), (9, .int .i64 (runZ x.bits os ad vl).2.2), (18, .int .i64 (runZ x.bits os ad vl).2.2), (19, .int .i64 0)] ∧ Sat S w (pt q (.cells #[.int .i64 7, .int .i64 p, .int .u64 ad, .int .i64 n, .int .u64 old, .int .u64 wv, .slice va vl vc] T.haycroftlaw12_Act (0, 0)) :: pt b (.cells (bufC (x) c d) T.pages_Buffer (0, 0)) :: isRow c (x).wr :: isRow d (x).hr :: pt mb (.cells #[.int .i64 x.bits, .int .i64 fr, lv] T.haycroftref12_Buffer (0, 0)) :: ownS T.haycroftref12_One 2 lv (rows oneC os) :: bigH oneH os :: G)) (1) ⟨0, rfl, by omega, rfl, h.pm7⟩ ?_
    clear h
    rintro lm le w ⟨j, rfl, hi0, rfl, h⟩ ih
    repeat' (first | refine stPs ?_ | (refine stC0_P12g ?_; rintro _ w ⟨rfl, h⟩) | (refine stC1_P12g ?_; rintro _ w ⟨u, rfl, h⟩) | (refine stC2_P12g ?_; rintro _ w ⟨bx, rfl, h⟩) | (refine stD3_P12g ?_; rintro _ w ⟨rfl, h⟩ <;> refine nowa ?_) | (refine stD4_P12g ?_; rintro _ w ⟨rfl, ⟨lv, h⟩⟩ <;> refine nowa ?_) | (refine p_cmp rfl rfl rfl rfl (fun hc => ?_) (fun hc => ?_) <;> simp only [cmpProp] at hc) | (refine r_cmp rfl rfl rfl rfl rfl (fun hc => ?_) (fun hc => ?_) <;> simp only [cmpProp] at hc) | (refine x_drawn rfl ?_; have h := h.drew) | refine x_drawn rfl ?_ | fail)
    all_goals exact x_ret' is_law12_does rfl ⟨rfl, x, os, lv, hr, rfl, rfl, h.pm6⟩
end
end Go.Proofs.Ytfchenbihepjaaa
