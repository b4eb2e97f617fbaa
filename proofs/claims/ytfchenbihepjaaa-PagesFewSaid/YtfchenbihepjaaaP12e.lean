/- Layer 12 (pages): a call on both: a page's words. -/
import Derived.Test.YtfchenbihepjaaaHxS
import Derived.Test.YtfchenbihepjaaaP12d
import Derived.Test.YtfchenbihepjaaaR01s
namespace Go.Proofs.Ytfchenbihepjaaa
open Go Go.HX
attribute [local irreducible] Ret XRun XOps XDr XOne Does Gives
set_option maxRecDepth 4000
set_option maxHeartbeats 1000000
theorem stC0_P12e {goal next : Prop} (k : next) (hs : Hid next → goal := by (intro k; (first | (refine gC F.ref12_Buffer_Run ?_; refine p_call rfl rfl (ref12_Buffer_Run_spec _ _ ?_ ?_ ?_ (h.rf2)) ?_; iterate 3 (first | assumption | omega | (simp only []; omega) | decide)) | (refine gC F.pages_Buffer_Load ?_; refine p_call rfl rfl (pages_Buffer_Load_spec _ ?_ ?_ ?_ (h.rf3)) ?_; iterate 3 (first | assumption | omega | (simp only []; omega) | decide)) | (refine gC F.pages_Buffer_Load ?_; refine p_call rfl rfl (pages_Buffer_Load_nil _ h) ?_) | (refine gC F.pages_Buffer_Store ?_; refine p_call rfl rfl (pages_Buffer_Store_spec _ _ ?_ ?_ ?_ ?_ ?_ (h.rf3)) ?_; iterate 5 (first | assumption | omega | (simp only []; omega) | decide)) | (refine gC F.pages_Buffer_Store ?_; refine p_call rfl rfl (pages_Buffer_Store_nil _ _ h) ?_) | (refine gC F.pages_Buffer_CAS ?_; refine p_call rfl rfl (pages_Buffer_CAS_spec _ _ _ ?_ ?_ ?_ ?_ ?_ (h.rf3)) ?_; iterate 5 (first | assumption | omega | (simp only []; omega) | decide)) | (refine gC F.pages_Buffer_CAS ?_; refine p_call rfl rfl (pages_Buffer_CAS_nil _ _ _ h) ?_) | (refine gC F.pages_Buffer_Words ?_; refine p_call rfl rfl (pages_Buffer_Words_nil _ _ h) ?_) | (refine gC F.pages_Buffer_Fill ?_; refine p_call rfl rfl (pages_Buffer_Fill_nil _ h) ?_) | (refine gC F.pages_Buffer_Page ?_; refine p_call rfl rfl (pages_Buffer_Page_nil _ h) ?_) | (refine gC F.ref12_Buffer_At ?_; refine p_call rfl rfl (ref12_Buffer_At_spec _ ?_ (h.rf2)) ?_; iterate 1 (first | assumption | omega | (simp only []; omega) | decide)) | fail); exact k.out)) : goal := hs ⟨k⟩
theorem stC1_P12e {goal next : Prop} (k : next) (hs : Hid next → goal := by (intro k; (first | (refine gC F.pages_Buffer_Words ?_; refine p_call rfl rfl (pages_Buffer_Words_spec _ _ ?_ ?_ ?_ _ ?_ ?_ (h.rf3)) ?_; iterate 5 (first | assumption | omega | (simp only []; omega) | decide)) | (refine gC F.pages_Buffer_Page ?_; refine p_call rfl rfl (pages_Buffer_Page_spec _ ?_ ?_ _ (h.rf3)) ?_; iterate 2 (first | assumption | omega | (simp only []; omega) | decide)) | fail); exact k.out)) : goal := hs ⟨k⟩
theorem stC2_P12e {goal next : Prop} (k : next) (hs : Hid next → goal := by (intro k; (first | (refine gBx ?_; refine p_do rfl (d_boxL rfl h (by first | (dsimp only [Value.cells]; done) | exact rfl)) ?_) | fail); exact k.out)) : goal := hs ⟨k⟩
theorem stD3_P12e {goal next : Prop} (k : next) (hs : Hid next → goal := by (intro k; (first | (refine gCR F.pages_Buffer_Open ?_; refine r_call rfl rfl rfl (pages_Buffer_Open_spec _ ?_ ?_ (h.rf3)) ?_; iterate 2 (first | assumption | omega | (simp only []; omega) | decide)) | (refine gCR F.pages_Buffer_Open ?_; refine r_call rfl rfl rfl (pages_Buffer_Open_nil _ h) ?_) | (refine gCR F.pages_Buffer_Close ?_; refine r_call rfl rfl rfl (pages_Buffer_Close_spec _ ?_ ?_ (h.rf3)) ?_; iterate 2 (first | assumption | omega | (simp only []; omega) | decide)) | (refine gCR F.pages_Buffer_Close ?_; refine r_call rfl rfl rfl (pages_Buffer_Close_nil _ h) ?_) | (refine gSR ?_; (first | refine r_do rfl rfl (d_stwL rfl rfl rfl rfl rfl (h.pick (by repeat first | exact .here | apply Has.there)) (by first | (dsimp only [Value.cells]; done) | exact rfl)) ?_ | refine r_do rfl rfl (d_stL rfl rfl rfl (h.pick (by repeat first | exact .here | apply Has.there)) (by first | exact of_decide_eq_true rfl | simp) (by first | (dsimp only [List.set]; done) | exact rfl)) ?_)) | fail); exact k.out)) : goal := hs ⟨k⟩
theorem stD4_P12e {goal next : Prop} (k : next) (hs : Hid next → goal := by (intro k; (first | (refine gCR F.ref12_Buffer_Close ?_; refine r_call rfl rfl rfl (ref12_Buffer_Close_spec _ ?_ ?_ (h.rf2)) ?_; iterate 2 (first | assumption | omega | (simp only []; omega) | decide)) | fail); exact k.out)) : goal := hs ⟨k⟩
section
variable {S : SP} {w : World} {G : List HProp}

set_option maxHeartbeats 16000000 in
theorem law12_does_page {b c d mb : Nat} {x : BufM} {os : List OneM} {lv : Value} {bits fr : Int} {a : Act12} (hk : a.kind = 8) (ha : Act12Ok a) (hr : Rel12 x os) (h : Sat S w (pt b (.cells (bufC (x) c d) T.pages_Buffer (0, 0)) :: isRow c (x).wr :: isRow d (x).hr :: pt mb (.cells #[.int .i64 bits, .int .i64 fr, lv] T.haycroftref12_Buffer (0, 0)) :: ownS T.haycroftref12_One 2 lv (rows oneC (os)) :: bigH oneH os :: G)) :
    Ret Try.prog F.law12_does #[.pointer (some ⟨b, 0, none⟩), .pointer (some ⟨mb, 0, none⟩), .agg (act12C a).toArray] w (fun v w' => v = .bool true ∧ Sat S w' (pt b (.cells (bufC (x) c d) T.pages_Buffer (0, 0)) :: isRow c (x).wr :: isRow d (x).hr :: pt mb (.cells #[.int .i64 bits, .int .i64 fr, lv] T.haycroftref12_Buffer (0, 0)) :: ownS T.haycroftref12_One 2 lv (rows oneC (os)) :: bigH oneH os :: G)) := by
  obtain ⟨kd, p, ad, n, old, wv, va, vl, vc, al⟩ := a
  obtain ⟨hp, had, _, _⟩ := ha
  simp only at hk hp had
  subst hk
  have hok := hr.ok
  have hos := hr.len
  refine ret_of is_law12_does rfl ?_
  by_cases hh : x.has p
  · have hat := hr.at_.2 hh
    obtain ⟨k, hk⟩ : ∃ k, atN os p = some k := by
      unfold atZ at hat
      cases ha : atN os p with
      | none => rw [ha] at hat; exact absurd hat (by decide)
      | some k => exact ⟨k, rfl⟩
    obtain ⟨o, hok2, hpo⟩ := at_get hk
    have haz : atZ os p = k := by unfold atZ; rw [hk]
    have hkl := (List.getElem?_eq_some_iff.1 hok2).1
    have hwd := hr.wd o (List.mem_of_getElem? hok2)
    rw [hpo] at hwd
    obtain ⟨sz, hs, _, hsz2, _⟩ := rel_size hok
    have hln : o.l.length ≤ 100000000 := by rw [hwd, List.length_take]; omega
    obtain ⟨la, ll, lc, rfl, hll, _⟩ := ownS_slice h (.there (.there (.there (.there .here))))
    rw [rows_length oneC_len] at hll
    obtain ⟨la, rfl⟩ := ownS_addr (E := T.haycroftref12_One) h (.there (.there (.there (.there .here)))) (by omega)
    have h := bigH_take hok2 (h.pick (.there (.there (.there (.there (.there .here))))))
    have h : Sat S w (ownS T.uint64 1 (.slice o.va o.vl o.vc) (ints .u64 o.l) :: _) := h
    repeat' (first | (refine gC F.ref12_Buffer_Run ?_; refine p_call rfl rfl (ref12_Buffer_Run_spec ad 1 had.1 had.2 (by omega) (h.rf2)) ?_; rintro _ w ⟨rfl, h⟩) | (refine gC F.pages_Buffer_Page ?_; refine p_call rfl rfl (pages_Buffer_Page_spec (x := x) p (by omega) hok hh (h.rf3)) ?_; rw [← hwd]; rintro _ w ⟨u, rfl, h⟩; obtain ⟨ua, ul, uc, rfl, _, _⟩ := ownS_slice h .here) | (refine gC F.ref12_Buffer_At ?_; refine p_call rfl rfl (ref12_Buffer_At_spec p (by omega) (h.rf2)) ?_; rw [haz]; rintro _ w ⟨rfl, h⟩) | (refine gL ?_; refine p_val rfl (g_ldF (i := k) (f := 1) (u := .slice o.va o.vl o.vc) oneC_len rfl (ownS_rd h (by repeat first | exact .here | apply Has.there)) hok2 rfl (by first | omega | (rw [haz]; omega))) ?_) | (refine gC F.ref01_Same ?_; refine p_call rfl rfl (ref01_Same_spec o.l o.l (fun w h => ownS_rd h (by repeat first | exact .here | apply Has.there)) (fun w h => ownS_rd h (by repeat first | exact .here | apply Has.there)) hln h) ?_; rintro _ w ⟨(⟨rfl, hb⟩ | ⟨rfl, hb⟩), h⟩; rotate_left; exact absurd rfl hb) | refine stP ?_ | (refine stC0_P12e ?_; rintro _ w ⟨rfl, h⟩) | (refine stC1_P12e ?_; rintro _ w ⟨u, rfl, h⟩) | (refine stC2_P12e ?_; rintro _ w ⟨bx, rfl, h⟩) | (refine stD3_P12e ?_; rintro _ w ⟨rfl, h⟩ <;> refine nowa ?_) | (refine stD4_P12e ?_; rintro _ w ⟨rfl, ⟨lv, h⟩⟩ <;> refine nowa ?_) | (refine p_cmp rfl rfl rfl rfl (fun hc => ?_) (fun hc => ?_) <;> simp only [cmpProp] at hc) | (refine r_cmp rfl rfl rfl rfl rfl (fun hc => ?_) (fun hc => ?_) <;> simp only [cmpProp] at hc) | (refine x_drawn rfl ?_; have h := h.drew) | refine x_drawn rfl ?_ | fail)
    have h := bigH_put (f := oneH) (x := o) hkl (h.rf2)
    have es : os.set k o = os := by
      obtain ⟨hi, he⟩ := List.getElem?_eq_some_iff.1 hok2
      rw [← he, List.set_getElem_self]
    rw [es] at h
    exact x_ret' is_law12_does rfl ⟨rfl, h.pm6⟩
  · have hat : atZ os p < 0 := by
      have : ¬ 0 ≤ atZ os p := fun e => hh (hr.at_.1 e)
      omega
    repeat' (first | (refine gC F.ref12_Buffer_Run ?_; refine p_call rfl rfl (ref12_Buffer_Run_spec ad 1 had.1 had.2 (by omega) (h.rf2)) ?_; rintro _ w ⟨rfl, h⟩) | (refine gC F.pages_Buffer_Page ?_; refine p_call rfl rfl (pages_Buffer_Page_out (x := x) p (by omega) hok hh (h.rf3)) ?_; rintro _ w ⟨rfl, h⟩) | (refine gC F.ref12_Buffer_At ?_; refine p_call rfl rfl (ref12_Buffer_At_spec p (by omega) (h.rf2)) ?_; rintro _ w ⟨rfl, h⟩) | refine stP ?_ | (refine stC0_P12e ?_; rintro _ w ⟨rfl, h⟩) | (refine stC1_P12e ?_; rintro _ w ⟨u, rfl, h⟩) | (refine stC2_P12e ?_; rintro _ w ⟨bx, rfl, h⟩) | (refine stD3_P12e ?_; rintro _ w ⟨rfl, h⟩ <;> refine nowa ?_) | (refine stD4_P12e ?_; rintro _ w ⟨rfl, ⟨lv, h⟩⟩ <;> refine nowa ?_) | (refine p_cmp rfl rfl rfl rfl (fun hc => ?_) (fun hc => ?_) <;> simp only [cmpProp] at hc) | (refine r_cmp rfl rfl rfl rfl rfl (fun hc => ?_) (fun hc => ?_) <;> simp only [cmpProp] at hc) | (refine x_drawn rfl ?_; have h := h.drew) | refine x_drawn rfl ?_ | fail)
    exact x_ret' is_law12_does rfl ⟨rfl, h.pm6⟩
end
end Go.Proofs.Ytfchenbihepjaaa
