/- Layer 18 (inplace): the last move of a writer. -/
import Derived.Test.YtjoicobfjpaepaaHxS
import Derived.Test.YtjoicobfjpaepaaP18c
namespace Go.Proofs.Ytjoicobfjpaepaa
open Go Go.HX
attribute [local irreducible] Ret XRun XOps XDr XOne Does Gives
set_option maxRecDepth 4000
set_option maxHeartbeats 1000000
theorem stC0_P18d {goal next : Prop} (k : next) (hs : Hid next → goal := by (intro k; (first | (refine gC F.header_Lock ?_; refine p_call rfl rfl (header_Lock_spec _ ?_ ?_ h) ?_; iterate 2 (first | assumption | omega | (simp only []; omega) | decide)) | (refine gC F.inplace_Writer_goes ?_; refine p_call rfl rfl (inplace_Writer_goes_spec _ (h.rf1)) ?_) | (refine gS ?_; (first | refine p_do rfl (d_stwL rfl rfl rfl rfl rfl (h.pick (by repeat first | exact .here | apply Has.there)) (by first | (dsimp only [Value.cells]; done) | exact rfl)) ?_ | refine p_do rfl (d_stL rfl rfl rfl (h.pick (by repeat first | exact .here | apply Has.there)) (by first | exact of_decide_eq_true rfl | simp) (by first | (dsimp only [List.set]; done) | exact rfl)) ?_)) | (refine gC F.header_Unlock ?_; refine p_call rfl rfl (header_Unlock_spec _ ?_ ?_ h) ?_; iterate 2 (first | assumption | omega | (simp only []; omega) | decide)) | fail); exact k.out)) : goal := hs ⟨k⟩
theorem stD1_P18d {goal next : Prop} (k : next) (hs : Hid next → goal := by (intro k; (first | (refine gCR F.pages_Buffer_Load ?_; refine r_call rfl rfl rfl (pages_Buffer_Load_spec _ ?_ ?_ ?_ (h.rf3)) ?_; iterate 3 (first | assumption | omega | (simp only []; omega) | decide)) | (refine gCR F.pages_Buffer_CAS ?_; refine r_call rfl rfl rfl (pages_Buffer_CAS_spec _ _ _ ?_ ?_ ?_ ?_ ?_ (h.rf3)) ?_; iterate 5 (first | assumption | omega | (simp only []; omega) | decide)) | (refine gCR F.pages_Buffer_Store ?_; refine r_call rfl rfl rfl (pages_Buffer_Store_spec _ _ ?_ ?_ ?_ ?_ ?_ (h.rf3)) ?_; iterate 5 (first | assumption | omega | (simp only []; omega) | decide)) | fail); exact k.out)) : goal := hs ⟨k⟩
theorem stC2_P18d {goal next : Prop} (k : next) (hs : Hid next → goal := by (intro k; (first | (refine gC F.header_Locked ?_; refine p_call rfl rfl (header_Locked_spec _ ?_ ?_ h) ?_; iterate 2 (first | assumption | omega | (simp only []; omega) | decide)) | fail); exact k.out)) : goal := hs ⟨k⟩
section
variable {S : SP} {w : World} {G : List HProp}

set_option maxHeartbeats 4000000 in
theorem inplace_Writer_take_out {b c d r : Nat} {x : BufM} {y : WrM} {u : Value} (l0 : 0 ≤ y.lock) (l1 : y.lock ≤ 18446744073709551615) (hok : BufOk x) (hin : ¬ x.isIn y.lock) (h : Sat S w (pt r (.cells (wrC b y u).toArray T.inplace_Writer (0, 0)) :: pt b (.cells (bufC (x) c d) T.pages_Buffer (0, 0)) :: isRow c (x).wr :: isRow d (x).hr :: G)) :
    Ret Try.prog F.inplace_Writer_take #[.pointer (some ⟨r, 0, none⟩)] w (fun v w' => v = .tuple #[.int .i64 0, .int .i64 7] ∧ Sat S w' (pt r (.cells (wrC b y u).toArray T.inplace_Writer (0, 0)) :: pt b (.cells (bufC (x) c d) T.pages_Buffer (0, 0)) :: isRow c (x).wr :: isRow d (x).hr :: G)) := by
  refine ret_of is_inplace_Writer_take rfl ?_
  repeat' (first | (refine gCR F.pages_Buffer_Load ?_; refine r_call rfl rfl rfl (pages_Buffer_Load_spec y.lock l0 l1 hok (h.rf3)) ?_; rw [if_neg hin, if_neg hin]; rintro _ w ⟨rfl, h⟩; refine nowa ?_) | refine stP ?_ | (refine stC0_P18d ?_; rintro _ w ⟨rfl, h⟩) | (refine stD1_P18d ?_; rintro _ w ⟨rfl, h⟩ <;> refine nowa ?_) | (refine p_cmp rfl rfl rfl rfl (fun hc => ?_) (fun hc => ?_) <;> simp only [cmpProp] at hc) | (refine r_cmp rfl rfl rfl rfl rfl (fun hc => ?_) (fun hc => ?_) <;> simp only [cmpProp] at hc) | (refine x_drawn rfl ?_; have h := h.drew) | refine x_drawn rfl ?_ | fail)
  exact x_ret' is_inplace_Writer_take rfl ⟨rfl, h.pm4⟩

set_option maxHeartbeats 4000000 in
theorem inplace_Reader_look_out {b c d r : Nat} {x : BufM} {y : RdM} {u : Value} (l0 : 0 ≤ y.lock) (l1 : y.lock ≤ 18446744073709551615) (hok : BufOk x) (hin : ¬ x.isIn y.lock) (h : Sat S w (pt r (.cells (rdC b y u).toArray T.inplace_Reader (0, 0)) :: pt b (.cells (bufC (x) c d) T.pages_Buffer (0, 0)) :: isRow c (x).wr :: isRow d (x).hr :: G)) :
    Ret Try.prog F.inplace_Reader_look #[.pointer (some ⟨r, 0, none⟩)] w (fun v w' => v = .tuple #[.int .i64 0, .int .i64 7] ∧ Sat S w' (pt r (.cells (rdC b y u).toArray T.inplace_Reader (0, 0)) :: pt b (.cells (bufC (x) c d) T.pages_Buffer (0, 0)) :: isRow c (x).wr :: isRow d (x).hr :: G)) := by
  refine ret_of is_inplace_Reader_look rfl ?_
  repeat' (first | (refine gCR F.pages_Buffer_Load ?_; refine r_call rfl rfl rfl (pages_Buffer_Load_spec y.lock l0 l1 hok (h.rf3)) ?_; rw [if_neg hin, if_neg hin]; rintro _ w ⟨rfl, h⟩; refine nowa ?_) | refine stP ?_ | (refine stC2_P18d ?_; rintro _ w ⟨(⟨rfl, hb⟩ | ⟨rfl, hb⟩), h⟩) | (refine stC0_P18d ?_; rintro _ w ⟨rfl, h⟩) | (refine stD1_P18d ?_; rintro _ w ⟨rfl, h⟩ <;> refine nowa ?_) | (refine p_cmp rfl rfl rfl rfl (fun hc => ?_) (fun hc => ?_) <;> simp only [cmpProp] at hc) | (refine r_cmp rfl rfl rfl rfl rfl (fun hc => ?_) (fun hc => ?_) <;> simp only [cmpProp] at hc) | (refine x_drawn rfl ?_; have h := h.drew) | refine x_drawn rfl ?_ | fail)
  exact x_ret' is_inplace_Reader_look rfl ⟨rfl, h.pm4⟩

/-- The word at an address whose page is in. -/
def BufM.wd (x : BufM) (a : Int) : Int := x.wr.ws.getD (x.cell a).toNat 0
theorem buf_load {x : BufM} (hok : BufOk x) (a : Int) : x.wr.load (x.cell a) = x.wd a := by
  have := cell_bnd hok a
  rw [RowM.load, if_pos (by omega)]
  rfl

set_option maxHeartbeats 8000000 in
theorem inplace_Writer_take_busy {b c d r : Nat} {x : BufM} {y : WrM} {u : Value} (l0 : 0 ≤ y.lock) (l1 : y.lock ≤ 18446744073709551615) (hok : BufOk x) (hin : x.isIn y.lock) (hl : (lockV (x.wd y.lock)).2 = 10) (h : Sat S w (pt r (.cells (wrC b y u).toArray T.inplace_Writer (0, 0)) :: pt b (.cells (bufC (x) c d) T.pages_Buffer (0, 0)) :: isRow c (x).wr :: isRow d (x).hr :: G)) :
    Ret Try.prog F.inplace_Writer_take #[.pointer (some ⟨r, 0, none⟩)] w (fun v w' => v = .tuple #[.int .i64 3, .int .i64 0] ∧ Sat S w' (pt r (.cells (wrC b y u).toArray T.inplace_Writer (0, 0)) :: pt b (.cells (bufC (x) c d) T.pages_Buffer (0, 0)) :: isRow c (x).wr :: isRow d (x).hr :: G)) := by
  have hrow := isRow_ok h (.there (.there .here))
  have hb : 0 ≤ x.wd y.lock ∧ x.wd y.lock ≤ 18446744073709551615 := RowM.getD_ok hrow _
  refine ret_of is_inplace_Writer_take rfl ?_
  obtain ⟨⟨q1, q2⟩, hq⟩ : ∃ q, lockV (x.wd y.lock) = q := ⟨_, rfl⟩
  rw [hq] at hl
  simp only at hl
  subst hl
  repeat' (first | (refine gCR F.pages_Buffer_Load ?_; refine r_call rfl rfl rfl (pages_Buffer_Load_spec y.lock l0 l1 hok (h.rf3)) ?_; rw [if_pos hin, if_pos hin, buf_load hok]; rintro _ w ⟨rfl, h⟩; refine nowa ?_) | (refine gC F.header_Lock ?_; refine p_call rfl rfl (header_Lock_spec _ hb.1 hb.2 h) ?_; rw [hq]; rintro _ w ⟨rfl, h⟩) | refine stP ?_ | (refine stC0_P18d ?_; rintro _ w ⟨rfl, h⟩) | (refine stD1_P18d ?_; rintro _ w ⟨rfl, h⟩ <;> refine nowa ?_) | (refine p_cmp rfl rfl rfl rfl (fun hc => ?_) (fun hc => ?_) <;> simp only [cmpProp] at hc) | (refine r_cmp rfl rfl rfl rfl rfl (fun hc => ?_) (fun hc => ?_) <;> simp only [cmpProp] at hc) | (refine x_drawn rfl ?_; have h := h.drew) | refine x_drawn rfl ?_ | fail)
  exact x_ret' is_inplace_Writer_take rfl ⟨rfl, h.pm4⟩

set_option maxHeartbeats 8000000 in
theorem inplace_Writer_end_spec {b c d r : Nat} {x : BufM} {y : WrM} {u : Value} (l0 : 0 ≤ y.lock) (l1 : y.lock ≤ 18446744073709551615) (h0 : 0 ≤ y.held) (h1 : y.held ≤ 18446744073709551615) (hok : BufOk x) (hin : x.isIn y.lock) (hl : (unlockV y.held).2 = 0) (hu : 0 ≤ (unlockV y.held).1 ∧ (unlockV y.held).1 ≤ 18446744073709551615) (h : Sat S w (pt r (.cells (wrC b y u).toArray T.inplace_Writer (0, 0)) :: pt b (.cells (bufC (x) c d) T.pages_Buffer (0, 0)) :: isRow c (x).wr :: isRow d (x).hr :: G)) :
    Ret Try.prog F.inplace_Writer_end #[.pointer (some ⟨r, 0, none⟩)] w (fun v w' => v = .tuple #[.int .i64 2, .int .i64 0] ∧ Sat S w' (pt r (.cells (wrC b { y with st := 4 } u).toArray T.inplace_Writer (0, 0)) :: pt b (.cells (bufC ({ x with wr := x.wr.store (x.cell y.lock) (unlockV y.held).1 }) c d) T.pages_Buffer (0, 0)) :: isRow c ({ x with wr := x.wr.store (x.cell y.lock) (unlockV y.held).1 }).wr :: isRow d ({ x with wr := x.wr.store (x.cell y.lock) (unlockV y.held).1 }).hr :: G)) := by
  refine ret_of is_inplace_Writer_end rfl ?_
  obtain ⟨⟨q1, q2⟩, hq⟩ : ∃ q, unlockV y.held = q := ⟨_, rfl⟩
  rw [hq] at hl hu ⊢
  simp only at hl hu ⊢
  subst hl
  repeat' (first | (refine gCR F.pages_Buffer_Store ?_; refine r_call rfl rfl rfl (pages_Buffer_Store_spec y.lock q1 l0 l1 hu.1 hu.2 hok (h.rf3)) ?_; rw [if_pos hin, if_pos hin]; rintro _ w ⟨rfl, h⟩; refine nowa ?_) | (refine gC F.header_Unlock ?_; refine p_call rfl rfl (header_Unlock_spec _ h0 h1 h) ?_; rw [hq]; rintro _ w ⟨rfl, h⟩) | refine stP ?_ | (refine stC0_P18d ?_; rintro _ w ⟨rfl, h⟩) | (refine stD1_P18d ?_; rintro _ w ⟨rfl, h⟩ <;> refine nowa ?_) | (refine p_cmp rfl rfl rfl rfl (fun hc => ?_) (fun hc => ?_) <;> simp only [cmpProp] at hc) | (refine r_cmp rfl rfl rfl rfl rfl (fun hc => ?_) (fun hc => ?_) <;> simp only [cmpProp] at hc) | (refine x_drawn rfl ?_; have h := h.drew) | refine x_drawn rfl ?_ | fail)
  exact x_ret' is_inplace_Writer_end rfl ⟨rfl, h.pm4⟩

set_option maxHeartbeats 8000000 in
theorem inplace_Writer_take_wins {b c d r : Nat} {x : BufM} {y : WrM} {u : Value} (l0 : 0 ≤ y.lock) (l1 : y.lock ≤ 18446744073709551615) (hok : BufOk x) (hin : x.isIn y.lock) (hl : (lockV (x.wd y.lock)).2 = 0) (hu : 0 ≤ (lockV (x.wd y.lock)).1 ∧ (lockV (x.wd y.lock)).1 ≤ 18446744073709551615) (h : Sat S w (pt r (.cells (wrC b y u).toArray T.inplace_Writer (0, 0)) :: pt b (.cells (bufC (x) c d) T.pages_Buffer (0, 0)) :: isRow c (x).wr :: isRow d (x).hr :: G)) :
    Ret Try.prog F.inplace_Writer_take #[.pointer (some ⟨r, 0, none⟩)] w (fun v w' => v = .tuple #[.int .i64 1, .int .i64 0] ∧ Sat S w' (pt r (.cells (wrC b { y with st := y.next 1, held := (lockV (x.wd y.lock)).1 } u).toArray T.inplace_Writer (0, 0)) :: pt b (.cells (bufC ({ x with wr := x.wr.cas (x.cell y.lock) (x.wd y.lock) (lockV (x.wd y.lock)).1 }) c d) T.pages_Buffer (0, 0)) :: isRow c ({ x with wr := x.wr.cas (x.cell y.lock) (x.wd y.lock) (lockV (x.wd y.lock)).1 }).wr :: isRow d ({ x with wr := x.wr.cas (x.cell y.lock) (x.wd y.lock) (lockV (x.wd y.lock)).1 }).hr :: G)) := by
  have hrow := isRow_ok h (.there (.there .here))
  have hb : 0 ≤ x.wd y.lock ∧ x.wd y.lock ≤ 18446744073709551615 := RowM.getD_ok hrow _
  have hd : decide (x.isIn y.lock ∧ x.wr.ws.getD (x.cell y.lock).toNat 0 = x.wd y.lock) = true := decide_eq_true ⟨hin, rfl⟩
  refine ret_of is_inplace_Writer_take rfl ?_
  obtain ⟨⟨q1, q2⟩, hq⟩ : ∃ q, lockV (x.wd y.lock) = q := ⟨_, rfl⟩
  rw [hq] at hl hu ⊢
  simp only at hl hu ⊢
  subst hl
  repeat' (first | (refine gCR F.pages_Buffer_Load ?_; refine r_call rfl rfl rfl (pages_Buffer_Load_spec y.lock l0 l1 hok (h.rf3)) ?_; rw [if_pos hin, if_pos hin, buf_load hok]; rintro _ w ⟨rfl, h⟩; refine nowa ?_) | (refine gC F.header_Lock ?_; refine p_call rfl rfl (header_Lock_spec _ hb.1 hb.2 h) ?_; rw [hq]; rintro _ w ⟨rfl, h⟩) | (refine gCR F.pages_Buffer_CAS ?_; refine r_call rfl rfl rfl (pages_Buffer_CAS_spec y.lock (x.wd y.lock) q1 l0 l1 hu.1 hu.2 hok (h.rf3)) ?_; rw [if_pos hin, if_pos hin, hd]; rintro _ w ⟨rfl, h⟩; refine nowa ?_) | refine stP ?_ | (refine stC0_P18d ?_; rintro _ w ⟨rfl, h⟩) | (refine stD1_P18d ?_; rintro _ w ⟨rfl, h⟩ <;> refine nowa ?_) | (refine p_cmp rfl rfl rfl rfl (fun hc => ?_) (fun hc => ?_) <;> simp only [cmpProp] at hc) | (refine r_cmp rfl rfl rfl rfl rfl (fun hc => ?_) (fun hc => ?_) <;> simp only [cmpProp] at hc) | (refine x_drawn rfl ?_; have h := h.drew) | refine x_drawn rfl ?_ | fail)
  refine p_call rfl rfl (inplace_Writer_goes_spec (b := b) (x := { y with held := q1 }) (u := u) 1 (h.rf1)) ?_
  rintro _ w ⟨rfl, h⟩
  repeat' (first | refine stPs ?_ | (refine stC0_P18d ?_; rintro _ w ⟨rfl, h⟩) | (refine stD1_P18d ?_; rintro _ w ⟨rfl, h⟩ <;> refine nowa ?_) | (refine p_cmp rfl rfl rfl rfl (fun hc => ?_) (fun hc => ?_) <;> simp only [cmpProp] at hc) | (refine r_cmp rfl rfl rfl rfl rfl (fun hc => ?_) (fun hc => ?_) <;> simp only [cmpProp] at hc) | (refine x_drawn rfl ?_; have h := h.drew) | refine x_drawn rfl ?_ | fail)
  exact x_ret' is_inplace_Writer_take rfl ⟨rfl, h.pm4⟩
end
end Go.Proofs.Ytjoicobfjpaepaa
