/- Layer 12 (pages): a call on both: pages are opened. -/
import Derived.Test.YtfchenbihepjaaaHxS
import Derived.Test.YtfchenbihepjaaaL12d
import Derived.Test.YtfchenbihepjaaaW12
namespace Go.Proofs.Ytfchenbihepjaaa
open Go Go.HX
attribute [local irreducible] Ret XRun XOps XDr XOne Does Gives
set_option maxRecDepth 4000
set_option maxHeartbeats 1000000
theorem stC0_P12d {goal next : Prop} (k : next) (hs : Hid next → goal := by (intro k; (first | (refine gC F.ref12_Buffer_Run ?_; refine p_call rfl rfl (ref12_Buffer_Run_spec _ _ ?_ ?_ ?_ (h.rf2)) ?_; iterate 3 (first | assumption | omega | (simp only []; omega) | decide)) | (refine gC F.pages_Buffer_Load ?_; refine p_call rfl rfl (pages_Buffer_Load_spec _ ?_ ?_ ?_ (h.rf3)) ?_; iterate 3 (first | assumption | omega | (simp only []; omega) | decide)) | (refine gC F.pages_Buffer_Load ?_; refine p_call rfl rfl (pages_Buffer_Load_nil _ h) ?_) | (refine gC F.pages_Buffer_Store ?_; refine p_call rfl rfl (pages_Buffer_Store_spec _ _ ?_ ?_ ?_ ?_ ?_ (h.rf3)) ?_; iterate 5 (first | assumption | omega | (simp only []; omega) | decide)) | (refine gC F.pages_Buffer_Store ?_; refine p_call rfl rfl (pages_Buffer_Store_nil _ _ h) ?_) | (refine gC F.pages_Buffer_CAS ?_; refine p_call rfl rfl (pages_Buffer_CAS_spec _ _ _ ?_ ?_ ?_ ?_ ?_ (h.rf3)) ?_; iterate 5 (first | assumption | omega | (simp only []; omega) | decide)) | (refine gC F.pages_Buffer_CAS ?_; refine p_call rfl rfl (pages_Buffer_CAS_nil _ _ _ h) ?_) | (refine gC F.pages_Buffer_Words ?_; refine p_call rfl rfl (pages_Buffer_Words_nil _ _ h) ?_) | (refine gC F.pages_Buffer_Fill ?_; refine p_call rfl rfl (pages_Buffer_Fill_nil _ h) ?_) | (refine gC F.pages_Buffer_Page ?_; refine p_call rfl rfl (pages_Buffer_Page_nil _ h) ?_) | (refine gC F.ref12_Buffer_At ?_; refine p_call rfl rfl (ref12_Buffer_At_spec _ ?_ (h.rf2)) ?_; iterate 1 (first | assumption | omega | (simp only []; omega) | decide)) | fail); exact k.out)) : goal := hs ⟨k⟩
theorem stC1_P12d {goal next : Prop} (k : next) (hs : Hid next → goal := by (intro k; (first | (refine gC F.pages_Buffer_Words ?_; refine p_call rfl rfl (pages_Buffer_Words_spec _ _ ?_ ?_ ?_ _ ?_ ?_ (h.rf3)) ?_; iterate 5 (first | assumption | omega | (simp only []; omega) | decide)) | (refine gC F.pages_Buffer_Page ?_; refine p_call rfl rfl (pages_Buffer_Page_spec _ ?_ ?_ _ (h.rf3)) ?_; iterate 2 (first | assumption | omega | (simp only []; omega) | decide)) | fail); exact k.out)) : goal := hs ⟨k⟩
theorem stC2_P12d {goal next : Prop} (k : next) (hs : Hid next → goal := by (intro k; (first | (refine gBx ?_; refine p_do rfl (d_boxL rfl h (by first | (dsimp only [Value.cells]; done) | exact rfl)) ?_) | fail); exact k.out)) : goal := hs ⟨k⟩
theorem stD3_P12d {goal next : Prop} (k : next) (hs : Hid next → goal := by (intro k; (first | (refine gCR F.pages_Buffer_Open ?_; refine r_call rfl rfl rfl (pages_Buffer_Open_spec _ ?_ ?_ (h.rf3)) ?_; iterate 2 (first | assumption | omega | (simp only []; omega) | decide)) | (refine gCR F.pages_Buffer_Open ?_; refine r_call rfl rfl rfl (pages_Buffer_Open_nil _ h) ?_) | (refine gCR F.pages_Buffer_Close ?_; refine r_call rfl rfl rfl (pages_Buffer_Close_spec _ ?_ ?_ (h.rf3)) ?_; iterate 2 (first | assumption | omega | (simp only []; omega) | decide)) | (refine gCR F.pages_Buffer_Close ?_; refine r_call rfl rfl rfl (pages_Buffer_Close_nil _ h) ?_) | (refine gSR ?_; (first | refine r_do rfl rfl (d_stwL rfl rfl rfl rfl rfl (h.pick (by repeat first | exact .here | apply Has.there)) (by first | (dsimp only [Value.cells]; done) | exact rfl)) ?_ | refine r_do rfl rfl (d_stL rfl rfl rfl (h.pick (by repeat first | exact .here | apply Has.there)) (by first | exact of_decide_eq_true rfl | simp) (by first | (dsimp only [List.set]; done) | exact rfl)) ?_)) | fail); exact k.out)) : goal := hs ⟨k⟩
theorem stD4_P12d {goal next : Prop} (k : next) (hs : Hid next → goal := by (intro k; (first | (refine gCR F.ref12_Buffer_Close ?_; refine r_call rfl rfl rfl (ref12_Buffer_Close_spec _ ?_ ?_ (h.rf2)) ?_; iterate 2 (first | assumption | omega | (simp only []; omega) | decide)) | fail); exact k.out)) : goal := hs ⟨k⟩
structure Act12Ok (a : Act12) : Prop where
  page : -9223372036854775808 ≤ a.page ∧ a.page ≤ 9223372036854775807
  at_ : 0 ≤ a.a ∧ a.a ≤ 18446744073709551615
  old : 0 ≤ a.old ∧ a.old ≤ 18446744073709551615
  w : 0 ≤ a.w ∧ a.w ≤ 18446744073709551615
theorem rel_lost {x : BufM} {os : List OneM} {p : Int} (h : Rel12 x os) (hz : ¬ x.hr.ws.getD (x.frame p).toNat 0 = 0) : Rel12 { x with hr := x.hr.cas (x.frame p) 0 (p + 1) } os := by
  have hf := frame_bnd h.ok p
  have e : (x.hr.cas (x.frame p) 0 (p + 1)).ws = x.hr.ws := by
    unfold RowM.cas
    rw [if_pos (show x.hr.there (x.frame p) from ⟨by omega, by omega⟩), if_neg hz]
  have hfr : ∀ q : Int, BufM.frame { x with hr := x.hr.cas (x.frame p) 0 (p + 1) } q = x.frame q := fun q => by
    show q % ((x.hr.cas (x.frame p) 0 (p + 1)).ws.length : Int) = q % (x.hr.ws.length : Int)
    rw [e]
  refine ⟨⟨h.ok.bits, by show 2 ≤ (x.hr.cas (x.frame p) 0 (p + 1)).ws.length ∧ _; rw [e]; exact h.ok.few, by show (x.wr.ws.length : Int) = ((x.hr.cas (x.frame p) 0 (p + 1)).ws.length : Int) * _; rw [e]; exact h.ok.len⟩, by show (pagesIn (x.hr.cas (x.frame p) 0 (p + 1)).ws).Perm _; rw [e]; exact h.pm, h.up, fun o ho => ?_, fun o ho => ?_, fun f hfb => ?_⟩
  · rw [hfr]
    show 0 ≤ o.page ∧ _ ∧ (x.hr.cas (x.frame p) 0 (p + 1)).ws.getD _ 0 = _
    rw [e]; exact h.pg o ho
  · rw [hfr]; exact h.wd o ho
  · have hfb : f < (x.hr.cas (x.frame p) 0 (p + 1)).ws.length := hfb
    rw [e] at hfb
    rcases h.fm f hfb with h1 | ⟨o, ho, h1, h2⟩
    · left; show (x.hr.cas (x.frame p) 0 (p + 1)).ws.getD f 0 = 0; rw [e]; exact h1
    · right
      refine ⟨o, ho, by rw [hfr]; exact h1, ?_⟩
      show (x.hr.cas (x.frame p) 0 (p + 1)).ws.getD f 0 = _
      rw [e]; exact h2
section
variable {S : SP} {w : World} {G : List HProp}

set_option maxHeartbeats 16000000 in
theorem law12_does_open {b c d mb : Nat} {x : BufM} {os : List OneM} {lv : Value} {bits fr : Int} {a : Act12} (hb : bits = x.bits) (hfr : fr = x.hr.ws.length) (hk : a.kind = 1) (ha : Act12Ok a) (hr : Rel12 x os) (h : Sat S w (pt b (.cells (bufC (x) c d) T.pages_Buffer (0, 0)) :: isRow c (x).wr :: isRow d (x).hr :: pt mb (.cells #[.int .i64 bits, .int .i64 fr, lv] T.haycroftref12_Buffer (0, 0)) :: ownS T.haycroftref12_One 2 lv (rows oneC (os)) :: bigH oneH os :: G)) :
    Ret Try.prog F.law12_does #[.pointer (some ⟨b, 0, none⟩), .pointer (some ⟨mb, 0, none⟩), .agg (act12C a).toArray] w (fun v w' => v = .bool true ∧ ∃ x' os' lv, Rel12 x' os' ∧ x'.bits = x.bits ∧ x'.hr.ws.length = x.hr.ws.length ∧ Sat S w' (pt b (.cells (bufC (x') c d) T.pages_Buffer (0, 0)) :: isRow c (x').wr :: isRow d (x').hr :: pt mb (.cells #[.int .i64 bits, .int .i64 fr, lv] T.haycroftref12_Buffer (0, 0)) :: ownS T.haycroftref12_One 2 lv (rows oneC (os')) :: bigH oneH os' :: G)) := by
  obtain ⟨kd, p, ad, n, old, wv, va, vl, vc, al⟩ := a
  obtain ⟨hp, had, _, _⟩ := ha
  simp only at hk hp had
  subst hk
  have hok := hr.ok
  have hos := hr.len
  have hfw := hok.few
  refine ret_of is_law12_does rfl ?_
  by_cases p0 : p < 0
  · have eo : x.openR p = (1, x) := by unfold BufM.openR; rw [if_pos p0]
    repeat' (first | (refine gC F.ref12_Buffer_Run ?_; refine p_call rfl rfl (ref12_Buffer_Run_spec ad 1 had.1 had.2 (by omega) (h.rf2)) ?_; rintro _ w ⟨rfl, h⟩) | (refine gCR F.pages_Buffer_Open ?_; refine r_call rfl rfl rfl (pages_Buffer_Open_spec (x := x) p (by omega) hok (h.rf3)) ?_; rw [eo]; rintro _ w ⟨rfl, h⟩; refine nowa ?_) | (refine gCR F.ref12_Buffer_Open ?_; refine r_call rfl rfl rfl (ref12_Buffer_Open_arg p p0 h) ?_; rintro _ w ⟨rfl, h⟩; refine nowa ?_) | refine stP ?_ | (refine stC0_P12d ?_; rintro _ w ⟨rfl, h⟩) | (refine stC1_P12d ?_; rintro _ w ⟨u, rfl, h⟩) | (refine stC2_P12d ?_; rintro _ w ⟨bx, rfl, h⟩) | (refine stD3_P12d ?_; rintro _ w ⟨rfl, h⟩ <;> refine nowa ?_) | (refine stD4_P12d ?_; rintro _ w ⟨rfl, ⟨lv, h⟩⟩ <;> refine nowa ?_) | (refine p_cmp rfl rfl rfl rfl (fun hc => ?_) (fun hc => ?_) <;> simp only [cmpProp] at hc) | (refine r_cmp rfl rfl rfl rfl rfl (fun hc => ?_) (fun hc => ?_) <;> simp only [cmpProp] at hc) | (refine x_drawn rfl ?_; have h := h.drew) | refine x_drawn rfl ?_ | fail)
    exact x_ret' is_law12_does rfl ⟨rfl, x, os, lv, hr, rfl, rfl, h.pm6⟩
  by_cases hh : x.has p
  · have eo : x.openR p = (8, x) := by unfold BufM.openR; rw [if_neg p0, if_pos hh]
    have hat := hr.at_.2 hh
    repeat' (first | (refine gC F.ref12_Buffer_Run ?_; refine p_call rfl rfl (ref12_Buffer_Run_spec ad 1 had.1 had.2 (by omega) (h.rf2)) ?_; rintro _ w ⟨rfl, h⟩) | (refine gCR F.pages_Buffer_Open ?_; refine r_call rfl rfl rfl (pages_Buffer_Open_spec (x := x) p (by omega) hok (h.rf3)) ?_; rw [eo]; rintro _ w ⟨rfl, h⟩; refine nowa ?_) | (refine gCR F.ref12_Buffer_Open ?_; refine r_call rfl rfl rfl (ref12_Buffer_Open_there p (by omega) hos.2 hat (h.rf2)) ?_; rintro _ w ⟨rfl, h⟩; refine nowa ?_) | refine stP ?_ | (refine stC0_P12d ?_; rintro _ w ⟨rfl, h⟩) | (refine stC1_P12d ?_; rintro _ w ⟨u, rfl, h⟩) | (refine stC2_P12d ?_; rintro _ w ⟨bx, rfl, h⟩) | (refine stD3_P12d ?_; rintro _ w ⟨rfl, h⟩ <;> refine nowa ?_) | (refine stD4_P12d ?_; rintro _ w ⟨rfl, ⟨lv, h⟩⟩ <;> refine nowa ?_) | (refine p_cmp rfl rfl rfl rfl (fun hc => ?_) (fun hc => ?_) <;> simp only [cmpProp] at hc) | (refine r_cmp rfl rfl rfl rfl rfl (fun hc => ?_) (fun hc => ?_) <;> simp only [cmpProp] at hc) | (refine x_drawn rfl ?_; have h := h.drew) | refine x_drawn rfl ?_ | fail)
    exact x_ret' is_law12_does rfl ⟨rfl, x, os, lv, hr, rfl, rfl, h.pm6⟩
  have hfe : ∀ q : Int, (x.frame q) = q % fr := fun q => by rw [hfr]; rfl
  have hf := frame_bnd hok p
  by_cases hz : x.hr.ws.getD (x.frame p).toNat 0 = 0
  · obtain ⟨sz, hs, _, hsz2, _⟩ := rel_size hok
    have hro := fun (u1 : Option Addr) (u2 u3 : Nat) => rel_open (u1 := u1) (u2 := u2) (u3 := u3) hr (by omega) hp.2 hh hz hs
    have e1 : (x.openR p).1 = 0 := (hro none 0 0).1
    have e2 : (x.openR p).2.bits = x.bits ∧ (x.openR p).2.hr.ws.length = x.hr.ws.length := by
      unfold BufM.openR
      rw [if_neg p0, if_neg hh, if_pos hz]
      refine ⟨rfl, ?_⟩
      show (x.hr.cas (x.frame p) 0 (p + 1)).ws.length = _
      unfold RowM.cas
      rw [if_pos (show x.hr.there (x.frame p) from ⟨by omega, by omega⟩), if_pos hz]
      exact List.length_set ..
    have hno : ∀ o ∈ os, 0 ≤ o.page ∧ o.page % fr ≠ p % fr := fun o ho => by
      obtain ⟨o0, _, o2⟩ := hr.pg o ho
      refine ⟨o0, fun e => ?_⟩
      rw [hfe o.page, e, ← hfe p, hz] at o2
      omega
    repeat' (first | (refine gC F.ref12_Buffer_Run ?_; refine p_call rfl rfl (ref12_Buffer_Run_spec ad 1 had.1 had.2 (by omega) (h.rf2)) ?_; rintro _ w ⟨rfl, h⟩) | (refine gCR F.pages_Buffer_Open ?_; refine r_call rfl rfl rfl (pages_Buffer_Open_spec (x := x) p (by omega) hok (h.rf3)) ?_; rw [e1]; rintro _ w ⟨rfl, h⟩; refine nowa ?_) | (refine gCR F.ref12_Buffer_Open ?_; refine r_call rfl rfl rfl (ref12_Buffer_Open_spec (sz := sz) (bits := bits) (fr := fr) (os := os) p (by omega) (by omega) (by omega) (by rw [hb]; exact hs) hsz2 hos.2 hno (h.rf2)) ?_; rintro _ w ⟨rfl, lv2, u1, u2, u3, h⟩; refine nowa ?_) | refine stP ?_ | (refine stC0_P12d ?_; rintro _ w ⟨rfl, h⟩) | (refine stC1_P12d ?_; rintro _ w ⟨u, rfl, h⟩) | (refine stC2_P12d ?_; rintro _ w ⟨bx, rfl, h⟩) | (refine stD3_P12d ?_; rintro _ w ⟨rfl, h⟩ <;> refine nowa ?_) | (refine stD4_P12d ?_; rintro _ w ⟨rfl, ⟨lv, h⟩⟩ <;> refine nowa ?_) | (refine p_cmp rfl rfl rfl rfl (fun hc => ?_) (fun hc => ?_) <;> simp only [cmpProp] at hc) | (refine r_cmp rfl rfl rfl rfl rfl (fun hc => ?_) (fun hc => ?_) <;> simp only [cmpProp] at hc) | (refine x_drawn rfl ?_; have h := h.drew) | refine x_drawn rfl ?_ | fail)
    have h := bigH_ins (os := os) (x := ⟨p, u1, u2, u3, List.replicate sz 0⟩) (h.rf2)
    exact x_ret' is_law12_does rfl ⟨rfl, (x.openR p).2, _, lv2, (hro u1 u2 u3).2, e2.1, e2.2, h.pm6⟩
  · have eo : x.openR p = (10, { x with hr := x.hr.cas (x.frame p) 0 (p + 1) }) := by unfold BufM.openR; rw [if_neg p0, if_neg hh, if_neg hz]
    have hln : (x.hr.cas (x.frame p) 0 (p + 1)).ws.length = x.hr.ws.length := by
      unfold RowM.cas
      rw [if_pos (show x.hr.there (x.frame p) from ⟨by omega, by omega⟩), if_neg hz]
    have hat : atZ os p < 0 := by
      have : ¬ 0 ≤ atZ os p := fun e => hh (hr.at_.1 e)
      omega
    obtain ⟨y, hy, hyf, _⟩ := (hr.fm (x.frame p).toNat (by omega)).resolve_left hz
    obtain ⟨k, hky⟩ := List.mem_iff_getElem?.1 hy
    have hyb : y.page % fr = p % fr := by
      have := frame_bnd hok y.page
      rw [← hfe, ← hfe]
      omega
    repeat' (first | (refine gC F.ref12_Buffer_Run ?_; refine p_call rfl rfl (ref12_Buffer_Run_spec ad 1 had.1 had.2 (by omega) (h.rf2)) ?_; rintro _ w ⟨rfl, h⟩) | (refine gCR F.pages_Buffer_Open ?_; refine r_call rfl rfl rfl (pages_Buffer_Open_spec (x := x) p (by omega) hok (h.rf3)) ?_; rw [eo]; rintro _ w ⟨rfl, h⟩; refine nowa ?_) | (refine gCR F.ref12_Buffer_Open ?_; refine r_call rfl rfl rfl (ref12_Buffer_Open_busy p (by omega) (by omega) hos.2 hat (fun o ho => (hr.pg o ho).1) hky hyb (h.rf2)) ?_; rintro _ w ⟨rfl, h⟩; refine nowa ?_) | refine stP ?_ | (refine stC0_P12d ?_; rintro _ w ⟨rfl, h⟩) | (refine stC1_P12d ?_; rintro _ w ⟨u, rfl, h⟩) | (refine stC2_P12d ?_; rintro _ w ⟨bx, rfl, h⟩) | (refine stD3_P12d ?_; rintro _ w ⟨rfl, h⟩ <;> refine nowa ?_) | (refine stD4_P12d ?_; rintro _ w ⟨rfl, ⟨lv, h⟩⟩ <;> refine nowa ?_) | (refine p_cmp rfl rfl rfl rfl (fun hc => ?_) (fun hc => ?_) <;> simp only [cmpProp] at hc) | (refine r_cmp rfl rfl rfl rfl rfl (fun hc => ?_) (fun hc => ?_) <;> simp only [cmpProp] at hc) | (refine x_drawn rfl ?_; have h := h.drew) | refine x_drawn rfl ?_ | fail)
    exact x_ret' is_law12_does rfl ⟨rfl, _, os, lv, rel_lost hr hz, rfl, hln, h.pm6⟩
set_option maxHeartbeats 16000000 in
theorem law12_does_close {b c d mb : Nat} {x : BufM} {os : List OneM} {lv : Value} {bits fr : Int} {a : Act12} (hk : a.kind = 2) (ha : Act12Ok a) (hr : Rel12 x os) (h : Sat S w (pt b (.cells (bufC (x) c d) T.pages_Buffer (0, 0)) :: isRow c (x).wr :: isRow d (x).hr :: pt mb (.cells #[.int .i64 bits, .int .i64 fr, lv] T.haycroftref12_Buffer (0, 0)) :: ownS T.haycroftref12_One 2 lv (rows oneC (os)) :: bigH oneH os :: G)) :
    Ret Try.prog F.law12_does #[.pointer (some ⟨b, 0, none⟩), .pointer (some ⟨mb, 0, none⟩), .agg (act12C a).toArray] w (fun v w' => v = .bool true ∧ ∃ x' os' lv, Rel12 x' os' ∧ x'.bits = x.bits ∧ x'.hr.ws.length = x.hr.ws.length ∧ Sat S w' (pt b (.cells (bufC (x') c d) T.pages_Buffer (0, 0)) :: isRow c (x').wr :: isRow d (x').hr :: pt mb (.cells #[.int .i64 bits, .int .i64 fr, lv] T.haycroftref12_Buffer (0, 0)) :: ownS T.haycroftref12_One 2 lv (rows oneC (os')) :: bigH oneH os' :: G)) := by
  obtain ⟨kd, p, ad, n, old, wv, va, vl, vc, al⟩ := a
  obtain ⟨hp, had, _, _⟩ := ha
  simp only at hk hp had
  subst hk
  have hok := hr.ok
  have hos := hr.len
  refine ret_of is_law12_does rfl ?_
  by_cases hh : x.has p
  · have hat := hr.at_.2 hh
    obtain ⟨k, hk⟩ : ∃ k, atN os p = some k := by
      unfold atZ at hat
      cases ha : atN os p with
      | none => rw [ha] at hat; exact absurd hat (by decide)
      | some k => exact ⟨k, rfl⟩
    obtain ⟨o, hok2, _⟩ := at_get hk
    obtain ⟨e1, hrel⟩ := rel_close hr hk
    have hf := frame_bnd hok p
    have e2 : (x.closeR p).2.bits = x.bits ∧ (x.closeR p).2.hr.ws.length = x.hr.ws.length := by
      unfold BufM.closeR
      rw [if_pos hh]
      refine ⟨rfl, ?_⟩
      show (x.hr.store (x.frame p) 0).ws.length = _
      unfold RowM.store
      rw [if_pos (by omega)]
      exact List.length_set ..
    repeat' (first | (refine gC F.ref12_Buffer_Run ?_; refine p_call rfl rfl (ref12_Buffer_Run_spec ad 1 had.1 had.2 (by omega) (h.rf2)) ?_; rintro _ w ⟨rfl, h⟩) | (refine gCR F.pages_Buffer_Close ?_; refine r_call rfl rfl rfl (pages_Buffer_Close_spec (x := x) p (by omega) hok (h.rf3)) ?_; rw [e1]; rintro _ w ⟨rfl, h⟩; refine nowa ?_) | (refine gCR F.ref12_Buffer_Close ?_; refine r_call rfl rfl rfl (ref12_Buffer_Close_spec (k := k) (bits := bits) (fr := fr) (os := os) p hos.2 hk (h.rf2)) ?_; rintro _ w ⟨rfl, lv2, h⟩; refine nowa ?_) | refine stP ?_ | (refine stC0_P12d ?_; rintro _ w ⟨rfl, h⟩) | (refine stC1_P12d ?_; rintro _ w ⟨u, rfl, h⟩) | (refine stC2_P12d ?_; rintro _ w ⟨bx, rfl, h⟩) | (refine stD3_P12d ?_; rintro _ w ⟨rfl, h⟩ <;> refine nowa ?_) | (refine stD4_P12d ?_; rintro _ w ⟨rfl, ⟨lv, h⟩⟩ <;> refine nowa ?_) | (refine p_cmp rfl rfl rfl rfl (fun hc => ?_) (fun hc => ?_) <;> simp only [cmpProp] at hc) | (refine r_cmp rfl rfl rfl rfl rfl (fun hc => ?_) (fun hc => ?_) <;> simp only [cmpProp] at hc) | (refine x_drawn rfl ?_; have h := h.drew) | refine x_drawn rfl ?_ | fail)
    have h : Sat S w (bigH oneH os :: pt b (.cells (bufC ((x.closeR p).2) c d) T.pages_Buffer (0, 0)) :: isRow c ((x.closeR p).2).wr :: isRow d ((x.closeR p).2).hr :: pt mb (.cells #[.int .i64 bits, .int .i64 fr, lv2] T.haycroftref12_Buffer (0, 0)) :: ownS T.haycroftref12_One 2 lv2 (rows oneC (os.eraseIdx k)) :: G) := h.pm6
    have h := bigH_take hok2 h
    exact x_ret' is_law12_does rfl ⟨rfl, (x.closeR p).2, _, lv2, hrel, e2.1, e2.2, h.pm6⟩
  · have eo : x.closeR p = (7, x) := by unfold BufM.closeR; rw [if_neg hh]
    have hat : atZ os p < 0 := by
      have : ¬ 0 ≤ atZ os p := fun e => hh (hr.at_.1 e)
      omega
    repeat' (first | (refine gC F.ref12_Buffer_Run ?_; refine p_call rfl rfl (ref12_Buffer_Run_spec ad 1 had.1 had.2 (by omega) (h.rf2)) ?_; rintro _ w ⟨rfl, h⟩) | (refine gCR F.pages_Buffer_Close ?_; refine r_call rfl rfl rfl (pages_Buffer_Close_spec (x := x) p (by omega) hok (h.rf3)) ?_; rw [eo]; rintro _ w ⟨rfl, h⟩; refine nowa ?_) | (refine gCR F.ref12_Buffer_Close ?_; refine r_call rfl rfl rfl (ref12_Buffer_Close_none p hos.2 hat (h.rf2)) ?_; rintro _ w ⟨rfl, h⟩; refine nowa ?_) | refine stP ?_ | (refine stC0_P12d ?_; rintro _ w ⟨rfl, h⟩) | (refine stC1_P12d ?_; rintro _ w ⟨u, rfl, h⟩) | (refine stC2_P12d ?_; rintro _ w ⟨bx, rfl, h⟩) | (refine stD3_P12d ?_; rintro _ w ⟨rfl, h⟩ <;> refine nowa ?_) | (refine stD4_P12d ?_; rintro _ w ⟨rfl, ⟨lv, h⟩⟩ <;> refine nowa ?_) | (refine p_cmp rfl rfl rfl rfl (fun hc => ?_) (fun hc => ?_) <;> simp only [cmpProp] at hc) | (refine r_cmp rfl rfl rfl rfl rfl (fun hc => ?_) (fun hc => ?_) <;> simp only [cmpProp] at hc) | (refine x_drawn rfl ?_; have h := h.drew) | refine x_drawn rfl ?_ | fail)
    exact x_ret' is_law12_does rfl ⟨rfl, x, os, lv, hr, rfl, rfl, h.pm6⟩

theorem law12_does_else {b c d mb : Nat} {x : BufM} {os : List OneM} {lv : Value} {bits fr : Int} {a : Act12} (hk : a.kind < 1 ∨ 8 < a.kind) (ha : Act12Ok a) (hr : Rel12 x os) (h : Sat S w (pt b (.cells (bufC (x) c d) T.pages_Buffer (0, 0)) :: isRow c (x).wr :: isRow d (x).hr :: pt mb (.cells #[.int .i64 bits, .int .i64 fr, lv] T.haycroftref12_Buffer (0, 0)) :: ownS T.haycroftref12_One 2 lv (rows oneC (os)) :: bigH oneH os :: G)) :
    Ret Try.prog F.law12_does #[.pointer (some ⟨b, 0, none⟩), .pointer (some ⟨mb, 0, none⟩), .agg (act12C a).toArray] w (fun v w' => v = .bool true ∧ Sat S w' (pt b (.cells (bufC (x) c d) T.pages_Buffer (0, 0)) :: isRow c (x).wr :: isRow d (x).hr :: pt mb (.cells #[.int .i64 bits, .int .i64 fr, lv] T.haycroftref12_Buffer (0, 0)) :: ownS T.haycroftref12_One 2 lv (rows oneC (os)) :: bigH oneH os :: G)) := by
  obtain ⟨kd, p, ad, n, old, wv, va, vl, vc, al⟩ := a
  obtain ⟨hp, had, _, _⟩ := ha
  simp only at hk hp had
  have hos := hr.len
  refine ret_of is_law12_does rfl ?_
  repeat' (first | (refine gC F.ref12_Buffer_Run ?_; refine p_call rfl rfl (ref12_Buffer_Run_spec ad 1 had.1 had.2 (by omega) (h.rf2)) ?_; rintro _ w ⟨rfl, h⟩) | refine stP ?_ | (refine stC0_P12d ?_; rintro _ w ⟨rfl, h⟩) | (refine stC1_P12d ?_; rintro _ w ⟨u, rfl, h⟩) | (refine stC2_P12d ?_; rintro _ w ⟨bx, rfl, h⟩) | (refine stD3_P12d ?_; rintro _ w ⟨rfl, h⟩ <;> refine nowa ?_) | (refine stD4_P12d ?_; rintro _ w ⟨rfl, ⟨lv, h⟩⟩ <;> refine nowa ?_) | (refine p_cmp rfl rfl rfl rfl (fun hc => ?_) (fun hc => ?_) <;> simp only [cmpProp] at hc) | (refine r_cmp rfl rfl rfl rfl rfl (fun hc => ?_) (fun hc => ?_) <;> simp only [cmpProp] at hc) | (refine x_drawn rfl ?_; have h := h.drew) | refine x_drawn rfl ?_ | fail)
  all_goals exact x_ret' is_law12_does rfl ⟨rfl, h.pm6⟩
end
end Go.Proofs.Ytfchenbihepjaaa
