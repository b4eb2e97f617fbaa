/- Layer 12 (pages): the law PagesFew. -/
import Derived.Test.YtfchenbihepjaaaHxS
import Derived.Test.YtfchenbihepjaaaP12h
namespace Go.Proofs.Ytfchenbihepjaaa
open Go Go.HX
attribute [local irreducible] Ret XRun XOps XDr XOne Does Gives
set_option maxRecDepth 4000
set_option maxHeartbeats 1000000
theorem stC0_W12f {goal next : Prop} (k : next) (hs : Hid next → goal := by (intro k; (first | (refine gC F.law12_awake ?_; refine p_call rfl rfl (law12_awake_spec h) ?_) | (refine gC F.pages_Buffer_In ?_; refine p_call rfl rfl (pages_Buffer_In_nil h) ?_) | (refine gC F.pages_Buffer_Open ?_; refine p_call rfl rfl (pages_Buffer_Open_spec _ ?_ ?_ (h.rf3)) ?_; iterate 2 (first | assumption | omega | (simp only []; omega) | decide)) | (refine gC F.pages_Buffer_Open ?_; refine p_call rfl rfl (pages_Buffer_Open_nil _ h) ?_) | (refine gC F.pages_Buffer_Page ?_; refine p_call rfl rfl (pages_Buffer_Page_nil _ h) ?_) | (refine gC F.ref02_Size ?_; refine p_call rfl rfl (ref02_Size_spec _ h) ?_) | fail); exact k.out)) : goal := hs ⟨k⟩
theorem stC1_W12f {goal next : Prop} (k : next) (hs : Hid next → goal := by (intro k; (first | (refine gC F.pages_New ?_; refine p_call rfl rfl (pages_New_spec _ _ h) ?_) | fail); exact k.out)) : goal := hs ⟨k⟩
theorem stC2_W12f {goal next : Prop} (k : next) (hs : Hid next → goal := by (intro k; (first | (refine gC F.ref12_New ?_; refine p_call rfl rfl (ref12_New_spec _ _ h) ?_) | fail); exact k.out)) : goal := hs ⟨k⟩
theorem stC3_W12f {goal next : Prop} (k : next) (hs : Hid next → goal := by (intro k; (first | (refine gC F.pages_Buffer_Page ?_; refine p_call rfl rfl (pages_Buffer_Page_spec _ ?_ ?_ _ (h.rf3)) ?_; iterate 2 (first | assumption | omega | (simp only []; omega) | decide)) | fail); exact k.out)) : goal := hs ⟨k⟩
theorem stD4_W12f {goal next : Prop} (k : next) (hs : Hid next → goal := by (intro k; (first | (refine gCR F.pages_Buffer_Close ?_; refine r_call rfl rfl rfl (pages_Buffer_Close_spec _ ?_ ?_ (h.rf3)) ?_; iterate 2 (first | assumption | omega | (simp only []; omega) | decide)) | (refine gCR F.pages_Buffer_Close ?_; refine r_call rfl rfl rfl (pages_Buffer_Close_nil _ h) ?_) | fail); exact k.out)) : goal := hs ⟨k⟩
theorem close_apart {x : BufM} {os : List OneM} {p : Int} {k : Nat} (h : Rel12 x os) (hk : atN os p = some k) : ∀ o ∈ os.eraseIdx k, o.page % (x.hr.ws.length : Int) ≠ p % (x.hr.ws.length : Int) := by
  obtain ⟨y, hy, rfl⟩ := at_get hk
  obtain ⟨y0, y1, y2⟩ := h.pg y (List.mem_of_getElem? hy)
  have hpm := erase_perm hy
  have hne : ∀ o ∈ os.eraseIdx k, o.page ≠ y.page := by
    have h1 : os.Pairwise (fun a b => a.page ≠ b.page) := h.up.imp (fun hab => by omega)
    have h2 := (hpm.pairwise_iff (R := fun a b : OneM => a.page ≠ b.page) (fun hab => hab.symm)).1 h1
    exact fun o ho => ((List.pairwise_cons.1 h2).1 o ho).symm
  intro o ho e
  have h2 := (h.pg o (hpm.mem_iff.2 (List.mem_cons_of_mem _ ho))).2.2
  have e2 : x.frame o.page = x.frame y.page := e
  rw [e2, y2] at h2
  exact hne o ho (by omega)
/-- Of the pages in one frame those behind the k-th are still in, and no others are. -/
def Shut (os0 os : List OneM) (fr f : Int) (k : Nat) : Prop := (∀ j o, os0[j]? = some o → k ≤ j → o.page % fr = f → o ∈ os) ∧ (∀ o ∈ os, o.page % fr = f → ∃ j, k ≤ j ∧ os0[j]? = some o)
theorem shut_start (os : List OneM) (fr f : Int) : Shut os os fr f 0 :=
  ⟨fun _ _ h _ _ => List.mem_of_getElem? h, fun _ ho _ => (List.mem_iff_getElem?.1 ho).imp fun _ h => ⟨Nat.zero_le _, h⟩⟩
theorem shut_skip {os0 os : List OneM} {fr f : Int} {k : Nat} {o : OneM} (h : Shut os0 os fr f k) (ho : os0[k]? = some o) (hn : o.page % fr ≠ f) : Shut os0 os fr f (k + 1) := by
  refine ⟨fun j y hj hk hf => h.1 j y hj (by omega) hf, fun y hy hf => ?_⟩
  obtain ⟨j, hj, hjy⟩ := h.2 y hy hf
  refine ⟨j, ?_, hjy⟩
  rcases Nat.lt_or_ge k j with hl | hg
  · omega
  · obtain rfl : j = k := by omega
    rw [ho] at hjy
    cases hjy
    exact absurd hf hn
theorem shut_close {x0 x : BufM} {os0 os : List OneM} {fr f : Int} {k : Nat} {o : OneM} (h0 : Rel12 x0 os0) (hr : Rel12 x os) (e0 : (x0.hr.ws.length : Int) = fr) (e : (x.hr.ws.length : Int) = fr) (h : Shut os0 os fr f k) (ho : os0[k]? = some o) (hf : o.page % fr = f) : ∃ m, atN os o.page = some m ∧ Shut os0 (os.eraseIdx m) fr f (k + 1) := by
  have hin := h.1 k o ho (Nat.le_refl _) hf
  obtain ⟨m, hm⟩ : ∃ m, atN os o.page = some m := by
    cases ha : atN os o.page with
    | none => exact absurd rfl (at_no ha o hin)
    | some m => exact ⟨m, rfl⟩
  refine ⟨m, hm, fun j y hj hk hy => ?_, fun y hy hyf => ?_⟩
  · exfalso
    refine h0.apart ho hj (by omega) ?_
    show o.page % (x0.hr.ws.length : Int) = y.page % (x0.hr.ws.length : Int)
    rw [e0, hf, hy]
  · exfalso
    have := close_apart hr hm y hy
    rw [e, hf, hyf] at this
    exact this rfl
theorem shut_end {os0 os : List OneM} {fr f : Int} (h : Shut os0 os fr f os0.length) : ∀ o ∈ os, o.page % fr ≠ f := fun o ho hf => by
  obtain ⟨j, hj, hjo⟩ := h.2 o ho hf
  have := (List.getElem?_eq_some_iff.1 hjo).1
  omega
/-- A page whose frame is free is opened, and has noughts alone. -/
theorem open_fresh {x : BufM} {os : List OneM} {p : Int} {sz : Nat} (h : Rel12 x os) (p0 : 0 ≤ p) (p1 : p ≤ 9223372036854775807) (hs : sizeZ x.bits = sz) (hn : ∀ o ∈ os, o.page % (x.hr.ws.length : Int) ≠ p % (x.hr.ws.length : Int)) :
    (x.openR p).1 = 0 ∧ BufOk (x.openR p).2 ∧ (x.openR p).2.has p ∧ (x.openR p).2.bits = x.bits ∧ (((x.openR p).2.wr.ws.drop ((x.openR p).2.frame p * sizeZ (x.openR p).2.bits).toNat).take (sizeZ (x.openR p).2.bits).toNat) = List.replicate sz 0 := by
  have hnp : ∀ o ∈ os, o.page ≠ p := fun o ho e => hn o ho (by rw [e])
  have hh : ¬ x.has p := fun e => by
    obtain ⟨o, ho, e⟩ := h.has.1 e
    exact hnp o ho e
  have hf := frame_bnd h.ok p
  have hz : x.hr.ws.getD (x.frame p).toNat 0 = 0 := by
    rcases h.fm (x.frame p).toNat (by omega) with h1 | ⟨o, ho, h1, _⟩
    · exact h1
    · have hfo := frame_bnd h.ok o.page
      exact absurd (show x.frame o.page = x.frame p by omega) (hn o ho)
  obtain ⟨h1, h2⟩ := rel_open (u1 := none) (u2 := 0) (u3 := 0) h p0 p1 hh hz hs
  have hm : (⟨p, none, 0, 0, List.replicate sz 0⟩ : OneM) ∈ insO os ⟨p, none, 0, 0, List.replicate sz 0⟩ := ((up_ins h.up hnp).2 _).2 (.inl rfl)
  refine ⟨h1, h2.ok, h2.has.2 ⟨_, hm, rfl⟩, ?_, (h2.wd _ hm).symm⟩
  unfold BufM.openR
  rw [if_neg (by omega), if_neg hh, if_pos hz]
theorem close_keeps (x : BufM) (p : Int) : (x.closeR p).2.bits = x.bits ∧ (x.closeR p).2.hr.ws.length = x.hr.ws.length := by
  unfold BufM.closeR
  split
  · refine ⟨rfl, ?_⟩
    show (x.hr.store (x.frame p) 0).ws.length = _
    unfold RowM.store
    split
    · exact List.length_set ..
    · rfl
  · exact ⟨rfl, rfl⟩
section
variable {S : SP} {w : World} {G : List HProp}

set_option maxHeartbeats 32000000 in
theorem law12_PagesFew_spec {v1 : Value} (bits fr page : Int) (al : List Act12) (hpb : page ≤ 9223372036854775807) (W0 : World) (hl : ∀ a ∈ al, Act12In W0 a) (hS : S = ⟨W0.heap.size, W0⟩) (hA : Old S 7 v1 (rows act12C al)) (h : Sat S w G) :
    Ret Try.prog F.law12_PagesFew #[.int .i64 bits, .int .i64 fr, v1, .int .i64 page] w (fun v w' => v = .bool true ∧ Sat S w' []) := by
  obtain ⟨va, vl, vc, rfl, _⟩ := hA _ w h
  have hvl := (hA _ w h).rlen act12C_len (by decide)
  refine ret_of is_law12_PagesFew rfl ?_
  by_cases hcc : (5 ≤ bits ∧ bits ≤ 9) ∧ 2 ≤ fr ∧ fr ≤ 8
  · repeat' (first | (refine gC F.pages_New ?_; refine p_call rfl rfl (pages_New_spec bits fr h) ?_; rintro _ w (⟨hx, _⟩ | ⟨_, b, c, d, rfl, h⟩); exact absurd hcc hx) | (refine gC F.ref12_New ?_; refine p_call rfl rfl (ref12_New_spec bits fr h) ?_; rintro _ w (⟨hx, _⟩ | ⟨_, mb, lv, rfl, h⟩); exact absurd hcc hx) | refine stP ?_ | (refine stC0_W12f ?_; rintro _ w ⟨rfl, h⟩) | (refine stC1_W12f ?_; rintro _ w (⟨hq1, rfl, h⟩ | ⟨⟨⟨hq2, hq3⟩, hq4, hq5⟩, ⟨b, c, d, rfl, h⟩⟩)) | (refine stC2_W12f ?_; rintro _ w (⟨hq1, rfl, h⟩ | ⟨⟨⟨hq2, hq3⟩, hq4, hq5⟩, ⟨mb, lv, rfl, h⟩⟩)) | (refine stC3_W12f ?_; rintro _ w ⟨u, rfl, h⟩) | (refine stD4_W12f ?_; rintro _ w ⟨rfl, h⟩ <;> refine nowa ?_) | (refine p_cmp rfl rfl rfl rfl (fun hc => ?_) (fun hc => ?_) <;> simp only [cmpProp] at hc) | (refine r_cmp rfl rfl rfl rfl rfl (fun hc => ?_) (fun hc => ?_) <;> simp only [cmpProp] at hc) | (refine x_drawn rfl ?_; have h := h.drew) | refine x_drawn rfl ?_ | fail)
    obtain ⟨hr0, hb0, hf0⟩ := rel_start hcc.1 hcc.2
    refine x_keep [0, 1, 2, 3, 9, 11, 13] rfl ?_
    refine x_loop_inv (fun lm le w => ∃ (i : Nat), ∃ (x : BufM), ∃ (os : List OneM), ∃ (lv : Value), lm = vl - i ∧ i ≤ vl ∧ Rel12 x os ∧ x.bits = bits ∧ (x.hr.ws.length : Int) = fr ∧ le = [(0, .int .i64 bits), (1, .int .i64 fr), (2, .slice va vl vc), (3, .int .i64 page), (9, .pointer (some ⟨b, 0, none⟩)), (11, .pointer (some ⟨mb, 0, none⟩)), (13, .int .i64 i)] ∧ Sat S w (pt b (.cells (bufC (x) c d) T.pages_Buffer (0, 0)) :: isRow c (x).wr :: isRow d (x).hr :: pt mb (.cells #[.int .i64 bits, .int .i64 fr, lv] T.haycroftref12_Buffer (0, 0)) :: ownS T.haycroftref12_One 2 lv (rows oneC (os)) :: bigH oneH os :: G)) (vl) ⟨0, buf0 bits fr, [], lv, rfl, by omega, hr0, hb0, hf0, rfl, (Sat_emp.2 (h.pm5)).sub (.cons (by repeat first | exact .here | apply Has.there) (.cons (by repeat first | exact .here | apply Has.there) (.cons (by repeat first | exact .here | apply Has.there) (.cons (by repeat first | exact .here | apply Has.there) (.cons (by repeat first | exact .here | apply Has.there) (.cons (by repeat first | exact .here | apply Has.there) (by repeat first | exact .refl _ | apply Sub.skip)))))))⟩ ?_
    clear h
    rintro lm le w ⟨i, x, os, lv, rfl, hi0, hi1, hi2, hi3, rfl, h⟩ ih
    by_cases hi : i < vl ∧ i < 100
    · obtain ⟨hi, h100⟩ := hi
      obtain ⟨a, hai⟩ := has_elem (show i < al.length by omega)
      obtain ⟨haok, hal, hrd⟩ := hl a (List.mem_of_getElem? hai)
      obtain ⟨pa, po, rfl⟩ := (hA _ w h).addr (by omega)
      have hL : Old S 1 (.slice a.va a.vl a.vc) (ints .u64 a.l) := fun G w h => by subst hS; exact hrd.later h
      repeat' (first | (refine gL ?_; refine p_val rfl (g_ldE (i := i) act12C_len rfl (hA _ _ h) hai (by omega)) ?_) | (refine gC F.law12_does ?_; refine p_call rfl rfl (law12_does_spec (x := x) (os := os) (bits := bits) (fr := fr) (by omega) (by omega) haok hal hL hi1 (h.rf6)) ?_; rintro _ w ⟨rfl, x', os', lv', hr, hbx, hfx, h⟩) | (refine gC F.pages_Buffer_In ?_; refine p_call rfl rfl (pages_Buffer_In_spec (x := x') hr.ok hr.hz (h.rf3)) ?_; rintro u w ⟨m, hpm, hrise, h⟩; obtain rfl := hr.sorted hpm hrise; obtain ⟨ua, ul, uc, rfl, hul, _⟩ := ownS_slice h .here; rw [ints_length, List.length_map, Nat.mul_one] at hul; have hos := hr.len) | refine stP ?_ | (refine stC0_W12f ?_; rintro _ w ⟨rfl, h⟩) | (refine stC1_W12f ?_; rintro _ w (⟨hq1, rfl, h⟩ | ⟨⟨⟨hq2, hq3⟩, hq4, hq5⟩, ⟨b, c, d, rfl, h⟩⟩)) | (refine stC2_W12f ?_; rintro _ w (⟨hq1, rfl, h⟩ | ⟨⟨⟨hq2, hq3⟩, hq4, hq5⟩, ⟨mb, lv, rfl, h⟩⟩)) | (refine stC3_W12f ?_; rintro _ w ⟨u, rfl, h⟩) | (refine stD4_W12f ?_; rintro _ w ⟨rfl, h⟩ <;> refine nowa ?_) | (refine p_cmp rfl rfl rfl rfl (fun hc => ?_) (fun hc => ?_) <;> simp only [cmpProp] at hc) | (refine r_cmp rfl rfl rfl rfl rfl (fun hc => ?_) (fun hc => ?_) <;> simp only [cmpProp] at hc) | (refine x_drawn rfl ?_; have h := h.drew) | refine x_drawn rfl ?_ | fail)
      refine x_keep [0, 1, 2, 3, 9, 11, 13, 14, 15] rfl ?_
      refine x_loop_inv (fun lm le w => ∃ (k : Nat), lm = ul - k ∧ k ≤ ul ∧ le = [(0, .int .i64 bits), (1, .int .i64 fr), (2, .slice (some ⟨pa, po, none⟩) vl vc), (3, .int .i64 page), (9, .pointer (some ⟨b, 0, none⟩)), (11, .pointer (some ⟨mb, 0, none⟩)), (13, .int .i64 i), (14, .slice ua ul uc), (15, .int .i64 k)] ∧ Sat S w (ownS T.int 1 (.slice ua ul uc) (ints .i64 (os'.map OneM.page)) :: pt b (.cells (bufC (x') c d) T.pages_Buffer (0, 0)) :: isRow c (x').wr :: isRow d (x').hr :: pt mb (.cells #[.int .i64 bits, .int .i64 fr, lv'] T.haycroftref12_Buffer (0, 0)) :: ownS T.haycroftref12_One 2 lv' (rows oneC os') :: bigH oneH os' :: G)) (ul) ⟨0, rfl, by omega, rfl, h.pm7⟩ ?_
      clear h
      rintro lm le w ⟨k, rfl, hi0, rfl, h⟩ ih2
      by_cases hk : k < ul
      · obtain ⟨o, hok⟩ := has_elem (show k < os'.length by omega)
        obtain ⟨ub, rfl⟩ := ownS_addr (E := T.int) h .here (by omega)
        have hmp : (os'.map OneM.page).getD k 0 = o.page := by rw [List.getD_eq_getElem?_getD, List.getElem?_map, hok]; rfl
        have ho0 := (hr.pg o (List.mem_of_getElem? hok)).1
        repeat' (first | refine stPs ?_ | (refine stC0_W12f ?_; rintro _ w ⟨rfl, h⟩) | (refine stC1_W12f ?_; rintro _ w (⟨hq1, rfl, h⟩ | ⟨⟨⟨hq2, hq3⟩, hq4, hq5⟩, ⟨b, c, d, rfl, h⟩⟩)) | (refine stC2_W12f ?_; rintro _ w (⟨hq1, rfl, h⟩ | ⟨⟨⟨hq2, hq3⟩, hq4, hq5⟩, ⟨mb, lv, rfl, h⟩⟩)) | (refine stC3_W12f ?_; rintro _ w ⟨u, rfl, h⟩) | (refine stD4_W12f ?_; rintro _ w ⟨rfl, h⟩ <;> refine nowa ?_) | (refine p_cmp rfl rfl rfl rfl (fun hc => ?_) (fun hc => ?_) <;> simp only [cmpProp] at hc) | (refine r_cmp rfl rfl rfl rfl rfl (fun hc => ?_) (fun hc => ?_) <;> simp only [cmpProp] at hc) | (refine x_drawn rfl ?_; have h := h.drew) | refine x_drawn rfl ?_ | fail)
        refine x_keep [0, 1, 2, 3, 9, 11, 13, 14, 15, 16] rfl ?_
        refine x_loop_inv (fun lm le w => ∃ (j : Nat), lm = k - j ∧ j ≤ k ∧ le = [(0, .int .i64 bits), (1, .int .i64 fr), (2, .slice (some ⟨pa, po, none⟩) vl vc), (3, .int .i64 page), (9, .pointer (some ⟨b, 0, none⟩)), (11, .pointer (some ⟨mb, 0, none⟩)), (13, .int .i64 i), (14, .slice (some ⟨ub, 0, none⟩) ul uc), (15, .int .i64 k), (16, .int .i64 j)] ∧ Sat S w (ownS T.int 1 (.slice (some ⟨ub, 0, none⟩) ul uc) (ints .i64 (os'.map OneM.page)) :: pt b (.cells (bufC (x') c d) T.pages_Buffer (0, 0)) :: isRow c (x').wr :: isRow d (x').hr :: pt mb (.cells #[.int .i64 bits, .int .i64 fr, lv'] T.haycroftref12_Buffer (0, 0)) :: ownS T.haycroftref12_One 2 lv' (rows oneC os') :: bigH oneH os' :: G)) (k) ⟨0, rfl, by omega, rfl, h.pm7⟩ ?_
        clear h
        rintro lm le w ⟨j, rfl, hi0, rfl, h⟩ ih3
        by_cases hj : j < k
        · obtain ⟨y, hyj⟩ := has_elem (show j < os'.length by omega)
          have hmj : (os'.map OneM.page).getD j 0 = y.page := by rw [List.getD_eq_getElem?_getD, List.getElem?_map, hyj]; rfl
          have hy0 := (hr.pg y (List.mem_of_getElem? hyj)).1
          have hap : y.page % fr ≠ o.page % fr := fun e => hr.apart hyj hok hj (by
            show y.page % (x'.hr.ws.length : Int) = o.page % (x'.hr.ws.length : Int)
            rw [show (x'.hr.ws.length : Int) = fr by omega]
            exact e)
          repeat' (first | (refine gLR ?_; first | (refine r_own rfl rfl rfl h (fun w h => g_ldI (i := j) (xs := os'.map OneM.page) rfl (ownS_rd h (by repeat first | exact .here | apply Has.there)) (by omega) (by rw [List.length_map]; omega)) ?_; rw [hmj]) | (refine r_own rfl rfl rfl h (fun w h => g_ldI (i := k) (xs := os'.map OneM.page) rfl (ownS_rd h (by repeat first | exact .here | apply Has.there)) (by omega) (by rw [List.length_map]; omega)) ?_; rw [hmp])) | (refine gR .rem ?_; refine r_pure rfl rfl rfl (fun _ => g_rem_i rfl rfl (by omega) (by omega)) ?_) | refine stP ?_ | (refine stC0_W12f ?_; rintro _ w ⟨rfl, h⟩) | (refine stC1_W12f ?_; rintro _ w (⟨hq1, rfl, h⟩ | ⟨⟨⟨hq2, hq3⟩, hq4, hq5⟩, ⟨b, c, d, rfl, h⟩⟩)) | (refine stC2_W12f ?_; rintro _ w (⟨hq1, rfl, h⟩ | ⟨⟨⟨hq2, hq3⟩, hq4, hq5⟩, ⟨mb, lv, rfl, h⟩⟩)) | (refine stC3_W12f ?_; rintro _ w ⟨u, rfl, h⟩) | (refine stD4_W12f ?_; rintro _ w ⟨rfl, h⟩ <;> refine nowa ?_) | (refine p_cmp rfl rfl rfl rfl (fun hc => ?_) (fun hc => ?_) <;> simp only [cmpProp] at hc) | (refine r_cmp rfl rfl rfl rfl rfl (fun hc => ?_) (fun hc => ?_) <;> simp only [cmpProp] at hc) | (refine x_drawn rfl ?_; have h := h.drew) | refine x_drawn rfl ?_ | fail)
          exact x_keep [0, 1, 2, 3, 9, 11, 13, 14, 15, 16] rfl (ih3 _ _ _ (by omega) ⟨j + 1, rfl, by omega, rfl, h.pm7⟩)
        · obtain rfl : j = k := by omega
          repeat' (first | refine stPs ?_ | (refine stC0_W12f ?_; rintro _ w ⟨rfl, h⟩) | (refine stC1_W12f ?_; rintro _ w (⟨hq1, rfl, h⟩ | ⟨⟨⟨hq2, hq3⟩, hq4, hq5⟩, ⟨b, c, d, rfl, h⟩⟩)) | (refine stC2_W12f ?_; rintro _ w (⟨hq1, rfl, h⟩ | ⟨⟨⟨hq2, hq3⟩, hq4, hq5⟩, ⟨mb, lv, rfl, h⟩⟩)) | (refine stC3_W12f ?_; rintro _ w ⟨u, rfl, h⟩) | (refine stD4_W12f ?_; rintro _ w ⟨rfl, h⟩ <;> refine nowa ?_) | (refine p_cmp rfl rfl rfl rfl (fun hc => ?_) (fun hc => ?_) <;> simp only [cmpProp] at hc) | (refine r_cmp rfl rfl rfl rfl rfl (fun hc => ?_) (fun hc => ?_) <;> simp only [cmpProp] at hc) | (refine x_drawn rfl ?_; have h := h.drew) | refine x_drawn rfl ?_ | fail)
          exact x_keep [0, 1, 2, 3, 9, 11, 13, 14, 15] rfl (ih2 _ _ _ (by omega) ⟨j + 1, rfl, by omega, rfl, h.pm7⟩)
      · obtain rfl : k = ul := by omega
        repeat' (first | refine stPs ?_ | (refine stC0_W12f ?_; rintro _ w ⟨rfl, h⟩) | (refine stC1_W12f ?_; rintro _ w (⟨hq1, rfl, h⟩ | ⟨⟨⟨hq2, hq3⟩, hq4, hq5⟩, ⟨b, c, d, rfl, h⟩⟩)) | (refine stC2_W12f ?_; rintro _ w (⟨hq1, rfl, h⟩ | ⟨⟨⟨hq2, hq3⟩, hq4, hq5⟩, ⟨mb, lv, rfl, h⟩⟩)) | (refine stC3_W12f ?_; rintro _ w ⟨u, rfl, h⟩) | (refine stD4_W12f ?_; rintro _ w ⟨rfl, h⟩ <;> refine nowa ?_) | (refine p_cmp rfl rfl rfl rfl (fun hc => ?_) (fun hc => ?_) <;> simp only [cmpProp] at hc) | (refine r_cmp rfl rfl rfl rfl rfl (fun hc => ?_) (fun hc => ?_) <;> simp only [cmpProp] at hc) | (refine x_drawn rfl ?_; have h := h.drew) | refine x_drawn rfl ?_ | fail)
        exact x_keep [0, 1, 2, 3, 9, 11, 13] rfl (ih _ _ _ (by omega) ⟨i + 1, x', os', lv', rfl, by omega, hr, by omega, by omega, rfl, h.pm6⟩)
    · have hok := hi1.ok
      by_cases p0 : page < 0
      · have eo : x.openR page = (1, x) := by unfold BufM.openR; rw [if_pos p0]
        repeat' (first | (refine gC F.pages_Buffer_Open ?_; refine p_call rfl rfl (pages_Buffer_Open_spec (x := x) page (by omega) hok (h.rf3)) ?_; rw [eo]; rintro _ w ⟨rfl, h⟩) | refine stP ?_ | (refine stC0_W12f ?_; rintro _ w ⟨rfl, h⟩) | (refine stC1_W12f ?_; rintro _ w (⟨hq1, rfl, h⟩ | ⟨⟨⟨hq2, hq3⟩, hq4, hq5⟩, ⟨b, c, d, rfl, h⟩⟩)) | (refine stC2_W12f ?_; rintro _ w (⟨hq1, rfl, h⟩ | ⟨⟨⟨hq2, hq3⟩, hq4, hq5⟩, ⟨mb, lv, rfl, h⟩⟩)) | (refine stC3_W12f ?_; rintro _ w ⟨u, rfl, h⟩) | (refine stD4_W12f ?_; rintro _ w ⟨rfl, h⟩ <;> refine nowa ?_) | (refine p_cmp rfl rfl rfl rfl (fun hc => ?_) (fun hc => ?_) <;> simp only [cmpProp] at hc) | (refine r_cmp rfl rfl rfl rfl rfl (fun hc => ?_) (fun hc => ?_) <;> simp only [cmpProp] at hc) | (refine x_drawn rfl ?_; have h := h.drew) | refine x_drawn rfl ?_ | fail)
        all_goals exact x_ret' is_law12_PagesFew rfl ⟨rfl, h.nil⟩
      · have hr := hi1
        have hxb := hi2
        have hxf := hi3
        have hos := hr.len
        by_cases hv : i < vl
        · repeat' (first | (refine gC F.pages_Buffer_In ?_; refine p_call rfl rfl (pages_Buffer_In_spec (x := x) hr.ok hr.hz (h.rf3)) ?_; rintro u w ⟨m, hpm, hrise, h⟩; obtain rfl := hr.sorted hpm hrise; obtain ⟨ua, ul, uc, rfl, hul, _⟩ := ownS_slice h .here; rw [ints_length, List.length_map, Nat.mul_one] at hul) | refine stP ?_ | (refine stC0_W12f ?_; rintro _ w ⟨rfl, h⟩) | (refine stC1_W12f ?_; rintro _ w (⟨hq1, rfl, h⟩ | ⟨⟨⟨hq2, hq3⟩, hq4, hq5⟩, ⟨b, c, d, rfl, h⟩⟩)) | (refine stC2_W12f ?_; rintro _ w (⟨hq1, rfl, h⟩ | ⟨⟨⟨hq2, hq3⟩, hq4, hq5⟩, ⟨mb, lv, rfl, h⟩⟩)) | (refine stC3_W12f ?_; rintro _ w ⟨u, rfl, h⟩) | (refine stD4_W12f ?_; rintro _ w ⟨rfl, h⟩ <;> refine nowa ?_) | (refine p_cmp rfl rfl rfl rfl (fun hc => ?_) (fun hc => ?_) <;> simp only [cmpProp] at hc) | (refine r_cmp rfl rfl rfl rfl rfl (fun hc => ?_) (fun hc => ?_) <;> simp only [cmpProp] at hc) | (refine x_drawn rfl ?_; have h := h.drew) | refine x_drawn rfl ?_ | fail)
          refine x_keep [0, 1, 3, 9, 17, 18] rfl ?_
          refine x_loop_inv (fun lm le w => ∃ (k : Nat), ∃ (y : BufM), ∃ (oy : List OneM), lm = ul - k ∧ k ≤ ul ∧ Rel12 y oy ∧ y.bits = bits ∧ (y.hr.ws.length : Int) = fr ∧ Shut os oy fr (page % fr) k ∧ le = [(0, .int .i64 bits), (1, .int .i64 fr), (3, .int .i64 page), (9, .pointer (some ⟨b, 0, none⟩)), (17, .slice ua ul uc), (18, .int .i64 k)] ∧ Sat S w (ownS T.int 1 (.slice ua ul uc) (ints .i64 (os.map OneM.page)) :: pt b (.cells (bufC (y) c d) T.pages_Buffer (0, 0)) :: isRow c (y).wr :: isRow d (y).hr :: pt mb (.cells #[.int .i64 bits, .int .i64 fr, lv] T.haycroftref12_Buffer (0, 0)) :: ownS T.haycroftref12_One 2 lv (rows oneC os) :: bigH oneH os :: G)) (ul) ⟨0, x, os, rfl, by omega, hr, hxb, hxf, shut_start _ _ _, rfl, h.pm7⟩ ?_
          clear h
          rintro lm le w ⟨k, y, oy, rfl, hi0, hi1, hi2, hi3, hi4, rfl, h⟩ ih2
          by_cases hk : k < ul
          · obtain ⟨o, hok⟩ := has_elem (show k < os.length by omega)
            obtain ⟨ub, rfl⟩ := ownS_addr (E := T.int) h .here (by omega)
            have hmp : (os.map OneM.page).getD k 0 = o.page := by rw [List.getD_eq_getElem?_getD, List.getElem?_map, hok]; rfl
            have ho0 := hr.pg o (List.mem_of_getElem? hok)
            by_cases hf : o.page % fr = page % fr
            · obtain ⟨m, hm, hsh⟩ := shut_close hr hi1 hxf hi3 hi4 hok hf
              obtain ⟨ec, hrc⟩ := rel_close hi1 hm
              obtain ⟨ek1, ek2⟩ := close_keeps y o.page
              repeat' (first | (refine gLR ?_; refine r_own rfl rfl rfl h (fun w h => g_ldI (i := k) (xs := os.map OneM.page) rfl (ownS_rd h (by repeat first | exact .here | apply Has.there)) (by omega) (by rw [List.length_map]; omega)) ?_; rw [hmp]) | (refine gR .rem ?_; refine r_pure rfl rfl rfl (fun _ => g_rem_i rfl rfl (by omega) (by omega)) ?_) | (refine gCR F.pages_Buffer_Close ?_; refine r_call rfl rfl rfl (pages_Buffer_Close_spec (x := y) o.page (by omega) hi1.ok (h.rf3)) ?_; rw [ec]; rintro _ w ⟨rfl, h⟩; refine nowa ?_) | refine stP ?_ | (refine stC0_W12f ?_; rintro _ w ⟨rfl, h⟩) | (refine stC1_W12f ?_; rintro _ w (⟨hq1, rfl, h⟩ | ⟨⟨⟨hq2, hq3⟩, hq4, hq5⟩, ⟨b, c, d, rfl, h⟩⟩)) | (refine stC2_W12f ?_; rintro _ w (⟨hq1, rfl, h⟩ | ⟨⟨⟨hq2, hq3⟩, hq4, hq5⟩, ⟨mb, lv, rfl, h⟩⟩)) | (refine stC3_W12f ?_; rintro _ w ⟨u, rfl, h⟩) | (refine stD4_W12f ?_; rintro _ w ⟨rfl, h⟩ <;> refine nowa ?_) | (refine p_cmp rfl rfl rfl rfl (fun hc => ?_) (fun hc => ?_) <;> simp only [cmpProp] at hc) | (refine r_cmp rfl rfl rfl rfl rfl (fun hc => ?_) (fun hc => ?_) <;> simp only [cmpProp] at hc) | (refine x_drawn rfl ?_; have h := h.drew) | refine x_drawn rfl ?_ | fail)
              exact x_keep [0, 1, 3, 9, 17, 18] rfl (ih2 _ _ _ (by omega) ⟨k + 1, (y.closeR o.page).2, _, rfl, by omega, hrc, by omega, by omega, hsh, rfl, h.pm7⟩)
            · repeat' (first | (refine gLR ?_; refine r_own rfl rfl rfl h (fun w h => g_ldI (i := k) (xs := os.map OneM.page) rfl (ownS_rd h (by repeat first | exact .here | apply Has.there)) (by omega) (by rw [List.length_map]; omega)) ?_; rw [hmp]) | (refine gR .rem ?_; refine r_pure rfl rfl rfl (fun _ => g_rem_i rfl rfl (by omega) (by omega)) ?_) | refine stP ?_ | (refine stC0_W12f ?_; rintro _ w ⟨rfl, h⟩) | (refine stC1_W12f ?_; rintro _ w (⟨hq1, rfl, h⟩ | ⟨⟨⟨hq2, hq3⟩, hq4, hq5⟩, ⟨b, c, d, rfl, h⟩⟩)) | (refine stC2_W12f ?_; rintro _ w (⟨hq1, rfl, h⟩ | ⟨⟨⟨hq2, hq3⟩, hq4, hq5⟩, ⟨mb, lv, rfl, h⟩⟩)) | (refine stC3_W12f ?_; rintro _ w ⟨u, rfl, h⟩) | (refine stD4_W12f ?_; rintro _ w ⟨rfl, h⟩ <;> refine nowa ?_) | (refine p_cmp rfl rfl rfl rfl (fun hc => ?_) (fun hc => ?_) <;> simp only [cmpProp] at hc) | (refine r_cmp rfl rfl rfl rfl rfl (fun hc => ?_) (fun hc => ?_) <;> simp only [cmpProp] at hc) | (refine x_drawn rfl ?_; have h := h.drew) | refine x_drawn rfl ?_ | fail)
              exact x_keep [0, 1, 3, 9, 17, 18] rfl (ih2 _ _ _ (by omega) ⟨k + 1, y, oy, rfl, by omega, hi1, hi2, hi3, shut_skip hi4 hok hf, rfl, h.pm7⟩)
          · obtain rfl : k = ul := by omega
            rw [show k = os.length by omega] at hi4
            obtain ⟨sz, hs, _, hsz2, _⟩ := rel_size hi1.ok
            obtain ⟨e1, hok2, hh2, eb2, ew⟩ := open_fresh hi1 (by omega) hpb hs (fun o ho => by rw [hi3]; exact shut_end hi4 o ho)
            rw [hi2] at hs
            have hrl : (List.replicate sz (0 : Int)).length ≤ 100000000 := by rw [List.length_replicate]; omega
            repeat' (first | (refine gC F.pages_Buffer_Open ?_; refine p_call rfl rfl (pages_Buffer_Open_spec (x := y) page (by omega) hi1.ok (h.rf3)) ?_; rw [e1]; rintro _ w ⟨rfl, h⟩) | (refine gC F.pages_Buffer_Page ?_; refine p_call rfl rfl (pages_Buffer_Page_spec (x := (y.openR page).2) page (by omega) hok2 hh2 (h.rf3)) ?_; rw [ew]; rintro _ w ⟨u, rfl, h⟩; obtain ⟨_, _, _, rfl, _, _⟩ := ownS_slice h .here) | (refine gC F.ref02_Size ?_; refine p_call rfl rfl (ref02_Size_spec bits h) ?_; rw [hs]; rintro _ w ⟨rfl, h⟩) | (refine p_do rfl (d_mkN (kd := .u64) (sz := 1) (n := sz) rfl rfl (by decide) (by omega) (by omega) h) ?_; intro u w h; rw [Nat.mul_one] at h; obtain ⟨_, _, _, rfl, _, _⟩ := ownS_slice h .here) | (refine gC F.ref01_Same ?_; refine p_call rfl rfl (ref01_Same_spec (List.replicate sz 0) (List.replicate sz 0) (fun w h => ownS_rd h (by repeat first | exact .here | apply Has.there)) (fun w h => ownS_rd h (by repeat first | exact .here | apply Has.there)) hrl h) ?_; rintro _ w ⟨(⟨rfl, hb⟩ | ⟨rfl, hb⟩), h⟩; rotate_left; exact absurd rfl hb) | refine stP ?_ | (refine stC0_W12f ?_; rintro _ w ⟨rfl, h⟩) | (refine stC1_W12f ?_; rintro _ w (⟨hq1, rfl, h⟩ | ⟨⟨⟨hq2, hq3⟩, hq4, hq5⟩, ⟨b, c, d, rfl, h⟩⟩)) | (refine stC2_W12f ?_; rintro _ w (⟨hq1, rfl, h⟩ | ⟨⟨⟨hq2, hq3⟩, hq4, hq5⟩, ⟨mb, lv, rfl, h⟩⟩)) | (refine stC3_W12f ?_; rintro _ w ⟨u, rfl, h⟩) | (refine stD4_W12f ?_; rintro _ w ⟨rfl, h⟩ <;> refine nowa ?_) | (refine p_cmp rfl rfl rfl rfl (fun hc => ?_) (fun hc => ?_) <;> simp only [cmpProp] at hc) | (refine r_cmp rfl rfl rfl rfl rfl (fun hc => ?_) (fun hc => ?_) <;> simp only [cmpProp] at hc) | (refine x_drawn rfl ?_; have h := h.drew) | refine x_drawn rfl ?_ | fail)
            all_goals exact x_ret' is_law12_PagesFew rfl ⟨rfl, h.nil⟩
        · repeat' (first | (refine gC F.pages_Buffer_In ?_; refine p_call rfl rfl (pages_Buffer_In_spec (x := x) hr.ok hr.hz (h.rf3)) ?_; rintro u w ⟨m, hpm, hrise, h⟩; obtain rfl := hr.sorted hpm hrise; obtain ⟨ua, ul, uc, rfl, hul, _⟩ := ownS_slice h .here; rw [ints_length, List.length_map, Nat.mul_one] at hul) | refine stP ?_ | (refine stC0_W12f ?_; rintro _ w ⟨rfl, h⟩) | (refine stC1_W12f ?_; rintro _ w (⟨hq1, rfl, h⟩ | ⟨⟨⟨hq2, hq3⟩, hq4, hq5⟩, ⟨b, c, d, rfl, h⟩⟩)) | (refine stC2_W12f ?_; rintro _ w (⟨hq1, rfl, h⟩ | ⟨⟨⟨hq2, hq3⟩, hq4, hq5⟩, ⟨mb, lv, rfl, h⟩⟩)) | (refine stC3_W12f ?_; rintro _ w ⟨u, rfl, h⟩) | (refine stD4_W12f ?_; rintro _ w ⟨rfl, h⟩ <;> refine nowa ?_) | (refine p_cmp rfl rfl rfl rfl (fun hc => ?_) (fun hc => ?_) <;> simp only [cmpProp] at hc) | (refine r_cmp rfl rfl rfl rfl rfl (fun hc => ?_) (fun hc => ?_) <;> simp only [cmpProp] at hc) | (refine x_drawn rfl ?_; have h := h.drew) | refine x_drawn rfl ?_ | fail)
          refine x_keep [0, 1, 3, 9, 17, 18] rfl ?_
          refine x_loop_inv (fun lm le w => ∃ (k : Nat), ∃ (y : BufM), ∃ (oy : List OneM), lm = ul - k ∧ k ≤ ul ∧ Rel12 y oy ∧ y.bits = bits ∧ (y.hr.ws.length : Int) = fr ∧ Shut os oy fr (page % fr) k ∧ le = [(0, .int .i64 bits), (1, .int .i64 fr), (3, .int .i64 page), (9, .pointer (some ⟨b, 0, none⟩)), (17, .slice ua ul uc), (18, .int .i64 k)] ∧ Sat S w (ownS T.int 1 (.slice ua ul uc) (ints .i64 (os.map OneM.page)) :: pt b (.cells (bufC (y) c d) T.pages_Buffer (0, 0)) :: isRow c (y).wr :: isRow d (y).hr :: pt mb (.cells #[.int .i64 bits, .int .i64 fr, lv] T.haycroftref12_Buffer (0, 0)) :: ownS T.haycroftref12_One 2 lv (rows oneC os) :: bigH oneH os :: G)) (ul) ⟨0, x, os, rfl, by omega, hr, hxb, hxf, shut_start _ _ _, rfl, h.pm7⟩ ?_
          clear h
          rintro lm le w ⟨k, y, oy, rfl, hi0, hi1, hi2, hi3, hi4, rfl, h⟩ ih2
          by_cases hk : k < ul
          · obtain ⟨o, hok⟩ := has_elem (show k < os.length by omega)
            obtain ⟨ub, rfl⟩ := ownS_addr (E := T.int) h .here (by omega)
            have hmp : (os.map OneM.page).getD k 0 = o.page := by rw [List.getD_eq_getElem?_getD, List.getElem?_map, hok]; rfl
            have ho0 := hr.pg o (List.mem_of_getElem? hok)
            by_cases hf : o.page % fr = page % fr
            · obtain ⟨m, hm, hsh⟩ := shut_close hr hi1 hxf hi3 hi4 hok hf
              obtain ⟨ec, hrc⟩ := rel_close hi1 hm
              obtain ⟨ek1, ek2⟩ := close_keeps y o.page
              repeat' (first | (refine gLR ?_; refine r_own rfl rfl rfl h (fun w h => g_ldI (i := k) (xs := os.map OneM.page) rfl (ownS_rd h (by repeat first | exact .here | apply Has.there)) (by omega) (by rw [List.length_map]; omega)) ?_; rw [hmp]) | (refine gR .rem ?_; refine r_pure rfl rfl rfl (fun _ => g_rem_i rfl rfl (by omega) (by omega)) ?_) | (refine gCR F.pages_Buffer_Close ?_; refine r_call rfl rfl rfl (pages_Buffer_Close_spec (x := y) o.page (by omega) hi1.ok (h.rf3)) ?_; rw [ec]; rintro _ w ⟨rfl, h⟩; refine nowa ?_) | refine stP ?_ | (refine stC0_W12f ?_; rintro _ w ⟨rfl, h⟩) | (refine stC1_W12f ?_; rintro _ w (⟨hq1, rfl, h⟩ | ⟨⟨⟨hq2, hq3⟩, hq4, hq5⟩, ⟨b, c, d, rfl, h⟩⟩)) | (refine stC2_W12f ?_; rintro _ w (⟨hq1, rfl, h⟩ | ⟨⟨⟨hq2, hq3⟩, hq4, hq5⟩, ⟨mb, lv, rfl, h⟩⟩)) | (refine stC3_W12f ?_; rintro _ w ⟨u, rfl, h⟩) | (refine stD4_W12f ?_; rintro _ w ⟨rfl, h⟩ <;> refine nowa ?_) | (refine p_cmp rfl rfl rfl rfl (fun hc => ?_) (fun hc => ?_) <;> simp only [cmpProp] at hc) | (refine r_cmp rfl rfl rfl rfl rfl (fun hc => ?_) (fun hc => ?_) <;> simp only [cmpProp] at hc) | (refine x_drawn rfl ?_; have h := h.drew) | refine x_drawn rfl ?_ | fail)
              exact x_keep [0, 1, 3, 9, 17, 18] rfl (ih2 _ _ _ (by omega) ⟨k + 1, (y.closeR o.page).2, _, rfl, by omega, hrc, by omega, by omega, hsh, rfl, h.pm7⟩)
            · repeat' (first | (refine gLR ?_; refine r_own rfl rfl rfl h (fun w h => g_ldI (i := k) (xs := os.map OneM.page) rfl (ownS_rd h (by repeat first | exact .here | apply Has.there)) (by omega) (by rw [List.length_map]; omega)) ?_; rw [hmp]) | (refine gR .rem ?_; refine r_pure rfl rfl rfl (fun _ => g_rem_i rfl rfl (by omega) (by omega)) ?_) | refine stP ?_ | (refine stC0_W12f ?_; rintro _ w ⟨rfl, h⟩) | (refine stC1_W12f ?_; rintro _ w (⟨hq1, rfl, h⟩ | ⟨⟨⟨hq2, hq3⟩, hq4, hq5⟩, ⟨b, c, d, rfl, h⟩⟩)) | (refine stC2_W12f ?_; rintro _ w (⟨hq1, rfl, h⟩ | ⟨⟨⟨hq2, hq3⟩, hq4, hq5⟩, ⟨mb, lv, rfl, h⟩⟩)) | (refine stC3_W12f ?_; rintro _ w ⟨u, rfl, h⟩) | (refine stD4_W12f ?_; rintro _ w ⟨rfl, h⟩ <;> refine nowa ?_) | (refine p_cmp rfl rfl rfl rfl (fun hc => ?_) (fun hc => ?_) <;> simp only [cmpProp] at hc) | (refine r_cmp rfl rfl rfl rfl rfl (fun hc => ?_) (fun hc => ?_) <;> simp only [cmpProp] at hc) | (refine x_drawn rfl ?_; have h := h.drew) | refine x_drawn rfl ?_ | fail)
              exact x_keep [0, 1, 3, 9, 17, 18] rfl (ih2 _ _ _ (by omega) ⟨k + 1, y, oy, rfl, by omega, hi1, hi2, hi3, shut_skip hi4 hok hf, rfl, h.pm7⟩)
          · obtain rfl : k = ul := by omega
            rw [show k = os.length by omega] at hi4
            obtain ⟨sz, hs, _, hsz2, _⟩ := rel_size hi1.ok
            obtain ⟨e1, hok2, hh2, eb2, ew⟩ := open_fresh hi1 (by omega) hpb hs (fun o ho => by rw [hi3]; exact shut_end hi4 o ho)
            rw [hi2] at hs
            have hrl : (List.replicate sz (0 : Int)).length ≤ 100000000 := by rw [List.length_replicate]; omega
            repeat' (first | (refine gC F.pages_Buffer_Open ?_; refine p_call rfl rfl (pages_Buffer_Open_spec (x := y) page (by omega) hi1.ok (h.rf3)) ?_; rw [e1]; rintro _ w ⟨rfl, h⟩) | (refine gC F.pages_Buffer_Page ?_; refine p_call rfl rfl (pages_Buffer_Page_spec (x := (y.openR page).2) page (by omega) hok2 hh2 (h.rf3)) ?_; rw [ew]; rintro _ w ⟨u, rfl, h⟩; obtain ⟨_, _, _, rfl, _, _⟩ := ownS_slice h .here) | (refine gC F.ref02_Size ?_; refine p_call rfl rfl (ref02_Size_spec bits h) ?_; rw [hs]; rintro _ w ⟨rfl, h⟩) | (refine p_do rfl (d_mkN (kd := .u64) (sz := 1) (n := sz) rfl rfl (by decide) (by omega) (by omega) h) ?_; intro u w h; rw [Nat.mul_one] at h; obtain ⟨_, _, _, rfl, _, _⟩ := ownS_slice h .here) | (refine gC F.ref01_Same ?_; refine p_call rfl rfl (ref01_Same_spec (List.replicate sz 0) (List.replicate sz 0) (fun w h => ownS_rd h (by repeat first | exact .here | apply Has.there)) (fun w h => ownS_rd h (by repeat first | exact .here | apply Has.there)) hrl h) ?_; rintro _ w ⟨(⟨rfl, hb⟩ | ⟨rfl, hb⟩), h⟩; rotate_left; exact absurd rfl hb) | refine stP ?_ | (refine stC0_W12f ?_; rintro _ w ⟨rfl, h⟩) | (refine stC1_W12f ?_; rintro _ w (⟨hq1, rfl, h⟩ | ⟨⟨⟨hq2, hq3⟩, hq4, hq5⟩, ⟨b, c, d, rfl, h⟩⟩)) | (refine stC2_W12f ?_; rintro _ w (⟨hq1, rfl, h⟩ | ⟨⟨⟨hq2, hq3⟩, hq4, hq5⟩, ⟨mb, lv, rfl, h⟩⟩)) | (refine stC3_W12f ?_; rintro _ w ⟨u, rfl, h⟩) | (refine stD4_W12f ?_; rintro _ w ⟨rfl, h⟩ <;> refine nowa ?_) | (refine p_cmp rfl rfl rfl rfl (fun hc => ?_) (fun hc => ?_) <;> simp only [cmpProp] at hc) | (refine r_cmp rfl rfl rfl rfl rfl (fun hc => ?_) (fun hc => ?_) <;> simp only [cmpProp] at hc) | (refine x_drawn rfl ?_; have h := h.drew) | refine x_drawn rfl ?_ | fail)
            all_goals exact x_ret' is_law12_PagesFew rfl ⟨rfl, h.nil⟩
  · repeat' (first | (refine gC F.pages_New ?_; refine p_call rfl rfl (pages_New_spec bits fr h) ?_; rintro _ w (⟨_, rfl, h⟩ | ⟨hx, _⟩); rotate_left; exact absurd hx hcc) | (refine gC F.ref12_New ?_; refine p_call rfl rfl (ref12_New_spec bits fr h) ?_; rintro _ w (⟨_, rfl, h⟩ | ⟨hx, _⟩); rotate_left; exact absurd hx hcc) | refine stP ?_ | (refine stC0_W12f ?_; rintro _ w ⟨rfl, h⟩) | (refine stC1_W12f ?_; rintro _ w (⟨hq1, rfl, h⟩ | ⟨⟨⟨hq2, hq3⟩, hq4, hq5⟩, ⟨b, c, d, rfl, h⟩⟩)) | (refine stC2_W12f ?_; rintro _ w (⟨hq1, rfl, h⟩ | ⟨⟨⟨hq2, hq3⟩, hq4, hq5⟩, ⟨mb, lv, rfl, h⟩⟩)) | (refine stC3_W12f ?_; rintro _ w ⟨u, rfl, h⟩) | (refine stD4_W12f ?_; rintro _ w ⟨rfl, h⟩ <;> refine nowa ?_) | (refine p_cmp rfl rfl rfl rfl (fun hc => ?_) (fun hc => ?_) <;> simp only [cmpProp] at hc) | (refine r_cmp rfl rfl rfl rfl rfl (fun hc => ?_) (fun hc => ?_) <;> simp only [cmpProp] at hc) | (refine x_drawn rfl ?_; have h := h.drew) | refine x_drawn rfl ?_ | fail)
    all_goals exact x_ret' is_law12_PagesFew rfl ⟨rfl, h.nil⟩
end
theorem PagesFew_law (a0 a1 : Int) (a2 : Option Addr) (len2 cap2 : Nat) (a3 : Int) (W : World) (_w0 : (Lit.int .i64 a0).wf = true) (_w1 : (Lit.int .i64 a1).wf = true) (w2 : Arg W (.sl act12Ty) [.slice a2 len2 cap2]) (w3 : (Lit.int .i64 a3).wf = true) :
    Ret Try.prog F.law12_PagesFew #[.int .i64 a0, .int .i64 a1, .slice a2 len2 cap2, .int .i64 a3] W (fun v w' => v = .bool true ∧ Sat ⟨W.heap.size, W⟩ w' []) := by
  obtain ⟨a, len, cap, els, he, _, _, hr, hall⟩ := w2
  simp at he
  obtain ⟨rfl, rfl, rfl⟩ := he
  obtain ⟨l, rfl, _, hl⟩ := list_of (f := act12C) (p := Act12In W) (fun c hc => arg_act12 (hall c hc))
  exact law12_PagesFew_spec a0 a1 a3 l (wf_i64 w3).2 W hl rfl (fun G w h => hr.later h) (Sat.begin W)
end Go.Proofs.Ytfchenbihepjaaa
