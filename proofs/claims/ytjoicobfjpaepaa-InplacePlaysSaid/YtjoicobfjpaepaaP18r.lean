/- Layer 18 (inplace): what a reader's moves do. -/
import Derived.Test.YtjoicobfjpaepaaHxS
import Derived.Test.YtjoicobfjpaepaaP18f
namespace Go.Proofs.Ytjoicobfjpaepaa
open Go Go.HX
attribute [local irreducible] Ret XRun XOps XDr XOne Does Gives
set_option maxRecDepth 4000
set_option maxHeartbeats 1000000
theorem stC0_P18r {goal next : Prop} (k : next) (hs : Hid next → goal := by (intro k; (first | (refine gC F.header_Locked ?_; refine p_call rfl rfl (header_Locked_spec _ ?_ ?_ h) ?_; iterate 2 (first | assumption | omega | (simp only []; omega) | decide)) | fail); exact k.out)) : goal := hs ⟨k⟩
theorem stC1_P18r {goal next : Prop} (k : next) (hs : Hid next → goal := by (intro k; (first | (refine gS ?_; (first | refine p_do rfl (d_stwL rfl rfl rfl rfl rfl (h.pick (by repeat first | exact .here | apply Has.there)) (by first | (dsimp only [Value.cells]; done) | exact rfl)) ?_ | refine p_do rfl (d_stL rfl rfl rfl (h.pick (by repeat first | exact .here | apply Has.there)) (by first | exact of_decide_eq_true rfl | simp) (by first | (dsimp only [List.set]; done) | exact rfl)) ?_)) | fail); exact k.out)) : goal := hs ⟨k⟩
theorem stD2_P18r {goal next : Prop} (k : next) (hs : Hid next → goal := by (intro k; (first | (refine gCR F.pages_Buffer_Load ?_; refine r_call rfl rfl rfl (pages_Buffer_Load_spec _ ?_ ?_ ?_ (h.rf3)) ?_; iterate 3 (first | assumption | omega | (simp only []; omega) | decide)) | (refine gSR ?_; (first | refine r_do rfl rfl (d_stwL rfl rfl rfl rfl rfl (h.pick (by repeat first | exact .here | apply Has.there)) (by first | (dsimp only [Value.cells]; done) | exact rfl)) ?_ | refine r_do rfl rfl (d_stL rfl rfl rfl (h.pick (by repeat first | exact .here | apply Has.there)) (by first | exact of_decide_eq_true rfl | simp) (by first | (dsimp only [List.set]; done) | exact rfl)) ?_)) | fail); exact k.out)) : goal := hs ⟨k⟩
section
variable {S : SP} {w : World} {G : List HProp}

set_option maxHeartbeats 8000000 in
theorem inplace_Reader_look_busy {b c d r : Nat} {x : BufM} {y : RdM} {u : Value} (l0 : 0 ≤ y.lock) (l1 : y.lock ≤ 18446744073709551615) (hok : BufOk x) (hin : x.isIn y.lock) (hl : 9223372036854775808 ≤ x.wd y.lock) (h : Sat S w (pt r (.cells (rdC b y u).toArray T.inplace_Reader (0, 0)) :: pt b (.cells (bufC (x) c d) T.pages_Buffer (0, 0)) :: isRow c (x).wr :: isRow d (x).hr :: G)) :
    Ret Try.prog F.inplace_Reader_look #[.pointer (some ⟨r, 0, none⟩)] w (fun v w' => v = .tuple #[.int .i64 3, .int .i64 0] ∧ Sat S w' (pt r (.cells (rdC b y u).toArray T.inplace_Reader (0, 0)) :: pt b (.cells (bufC (x) c d) T.pages_Buffer (0, 0)) :: isRow c (x).wr :: isRow d (x).hr :: G)) := by
  have hrow := isRow_ok h (.there (.there .here))
  have hb : 0 ≤ x.wd y.lock ∧ x.wd y.lock ≤ 18446744073709551615 := RowM.getD_ok hrow _
  refine ret_of is_inplace_Reader_look rfl ?_
  repeat' (first | (refine gCR F.pages_Buffer_Load ?_; refine r_call rfl rfl rfl (pages_Buffer_Load_spec y.lock l0 l1 hok (h.rf3)) ?_; rw [if_pos hin, if_pos hin, buf_load hok]; rintro _ w ⟨rfl, h⟩; refine nowa ?_) | refine stP ?_ | (refine stC0_P18r ?_; rintro _ w ⟨(⟨rfl, hb⟩ | ⟨rfl, hb⟩), h⟩) | (refine stC1_P18r ?_; rintro _ w ⟨rfl, h⟩) | (refine stD2_P18r ?_; rintro _ w ⟨rfl, h⟩ <;> refine nowa ?_) | (refine p_cmp rfl rfl rfl rfl (fun hc => ?_) (fun hc => ?_) <;> simp only [cmpProp] at hc) | (refine r_cmp rfl rfl rfl rfl rfl (fun hc => ?_) (fun hc => ?_) <;> simp only [cmpProp] at hc) | (refine x_drawn rfl ?_; have h := h.drew) | refine x_drawn rfl ?_ | fail)
  all_goals first | (exfalso; omega) | exact x_ret' is_inplace_Reader_look rfl ⟨rfl, h.pm4⟩

set_option maxHeartbeats 8000000 in
theorem inplace_Reader_look_sees {b c d r : Nat} {x : BufM} {y : RdM} {u : Value} (l0 : 0 ≤ y.lock) (l1 : y.lock ≤ 18446744073709551615) (hok : BufOk x) (hin : x.isIn y.lock) (hl : x.wd y.lock < 9223372036854775808) (h : Sat S w (pt r (.cells (rdC b y u).toArray T.inplace_Reader (0, 0)) :: pt b (.cells (bufC (x) c d) T.pages_Buffer (0, 0)) :: isRow c (x).wr :: isRow d (x).hr :: G)) :
    Ret Try.prog F.inplace_Reader_look #[.pointer (some ⟨r, 0, none⟩)] w (fun v w' => v = .tuple #[.int .i64 1, .int .i64 0] ∧ Sat S w' (pt r (.cells (rdC b { y with st := 1, seen := x.wd y.lock } (.slice none 0 0)).toArray T.inplace_Reader (0, 0)) :: pt b (.cells (bufC (x) c d) T.pages_Buffer (0, 0)) :: isRow c (x).wr :: isRow d (x).hr :: G)) := by
  have hrow := isRow_ok h (.there (.there .here))
  have hb : 0 ≤ x.wd y.lock ∧ x.wd y.lock ≤ 18446744073709551615 := RowM.getD_ok hrow _
  refine ret_of is_inplace_Reader_look rfl ?_
  repeat' (first | (refine gCR F.pages_Buffer_Load ?_; refine r_call rfl rfl rfl (pages_Buffer_Load_spec y.lock l0 l1 hok (h.rf3)) ?_; rw [if_pos hin, if_pos hin, buf_load hok]; rintro _ w ⟨rfl, h⟩; refine nowa ?_) | refine stP ?_ | (refine stC0_P18r ?_; rintro _ w ⟨(⟨rfl, hb⟩ | ⟨rfl, hb⟩), h⟩) | (refine stC1_P18r ?_; rintro _ w ⟨rfl, h⟩) | (refine stD2_P18r ?_; rintro _ w ⟨rfl, h⟩ <;> refine nowa ?_) | (refine p_cmp rfl rfl rfl rfl (fun hc => ?_) (fun hc => ?_) <;> simp only [cmpProp] at hc) | (refine r_cmp rfl rfl rfl rfl rfl (fun hc => ?_) (fun hc => ?_) <;> simp only [cmpProp] at hc) | (refine x_drawn rfl ?_; have h := h.drew) | refine x_drawn rfl ?_ | fail)
  all_goals first | (exfalso; omega) | exact x_ret' is_inplace_Reader_look rfl ⟨rfl, h.pm4⟩

set_option maxHeartbeats 8000000 in
theorem inplace_Reader_read_spec {b c d r : Nat} {x : BufM} {y : RdM} {va : Option Addr} {vl vc : Nat} {l : List Int} (l0 : 0 ≤ y.val) (l1 : y.val + vl ≤ 18446744073709551615) (hl2 : vl ≤ 1000) (hok : BufOk x) (hin : x.isIn (y.val + vl)) (h : Sat S w (pt r (.cells (rdC b y (.slice va vl vc)).toArray T.inplace_Reader (0, 0)) :: ownS T.uint64 1 (.slice va vl vc) (ints .u64 l) :: pt b (.cells (bufC (x) c d) T.pages_Buffer (0, 0)) :: isRow c (x).wr :: isRow d (x).hr :: G)) :
    Ret Try.prog F.inplace_Reader_read #[.pointer (some ⟨r, 0, none⟩)] w (fun v w' => v = .tuple #[.int .i64 1, .int .i64 0] ∧ ∃ u, Sat S w' (pt r (.cells (rdC b y u).toArray T.inplace_Reader (0, 0)) :: ownS T.uint64 1 u (ints .u64 (l ++ [x.wd (y.val + vl)])) :: pt b (.cells (bufC (x) c d) T.pages_Buffer (0, 0)) :: isRow c (x).wr :: isRow d (x).hr :: G)) := by
  have hrow := isRow_ok h (.there (.there (.there .here)))
  have hb : 0 ≤ x.wd (y.val + vl) ∧ x.wd (y.val + vl) ≤ 18446744073709551615 := RowM.getD_ok hrow _
  obtain ⟨_, _, _, he, hlen, _⟩ := ownS_slice h (.there .here)
  cases he
  rw [ints_length, Nat.mul_one] at hlen
  refine ret_of is_inplace_Reader_read rfl ?_
  repeat' (first | (refine gCR F.pages_Buffer_Load ?_; refine r_call rfl rfl rfl (pages_Buffer_Load_spec (y.val + vl) (by omega) l1 hok (h.rf3)) ?_; rw [if_pos hin, if_pos hin, buf_load hok]; rintro _ w ⟨rfl, h⟩; refine nowa ?_) | refine stP ?_ | (refine stC1_P18r ?_; rintro _ w ⟨rfl, h⟩) | (refine stD2_P18r ?_; rintro _ w ⟨rfl, h⟩ <;> refine nowa ?_) | (refine p_cmp rfl rfl rfl rfl (fun hc => ?_) (fun hc => ?_) <;> simp only [cmpProp] at hc) | (refine r_cmp rfl rfl rfl rfl rfl (fun hc => ?_) (fun hc => ?_) <;> simp only [cmpProp] at hc) | (refine x_drawn rfl ?_; have h := h.drew) | refine x_drawn rfl ?_ | fail)
  refine p_do rfl (d_lit [.int .u64 (x.wd (y.val + vl))] rfl rfl rfl rfl rfl h) ?_
  intro v2 w h
  repeat' (first | (refine p_do rfl (d_appR rfl rfl rfl (by decide) (h.pick (by repeat first | exact .here | apply Has.there)) (ownS_rd h .here) (by simp [Value.oneCell']) (by rw [ints_length]; simp; omega) (by rw [ints_length]; simp; omega)) ?_; intro v3 w h; rw [show ints .u64 l ++ [.int .u64 (x.wd (y.val + vl))] = ints .u64 (l ++ [x.wd (y.val + vl)]) by simp [ints]] at h; obtain ⟨va3, vl3, vc3, rfl, _, _⟩ := ownS_slice h .here) | refine stP ?_ | (refine stC1_P18r ?_; rintro _ w ⟨rfl, h⟩) | (refine stD2_P18r ?_; rintro _ w ⟨rfl, h⟩ <;> refine nowa ?_) | (refine p_cmp rfl rfl rfl rfl (fun hc => ?_) (fun hc => ?_) <;> simp only [cmpProp] at hc) | (refine r_cmp rfl rfl rfl rfl rfl (fun hc => ?_) (fun hc => ?_) <;> simp only [cmpProp] at hc) | (refine x_drawn rfl ?_; have h := h.drew) | refine x_drawn rfl ?_ | fail)
  exact x_ret' is_inplace_Reader_read rfl ⟨rfl, _, h.pm5⟩

set_option maxHeartbeats 8000000 in
theorem inplace_Reader_check_busy {b c d r : Nat} {x : BufM} {y : RdM} {u : Value} (l0 : 0 ≤ y.lock) (l1 : y.lock ≤ 18446744073709551615) (hok : BufOk x) (hin : x.isIn y.lock) (hl : x.wd y.lock ≠ y.seen) (h : Sat S w (pt r (.cells (rdC b y u).toArray T.inplace_Reader (0, 0)) :: pt b (.cells (bufC (x) c d) T.pages_Buffer (0, 0)) :: isRow c (x).wr :: isRow d (x).hr :: G)) :
    Ret Try.prog F.inplace_Reader_check #[.pointer (some ⟨r, 0, none⟩)] w (fun v w' => v = .tuple #[.int .i64 3, .int .i64 0] ∧ Sat S w' (pt r (.cells (rdC b { y with st := 0 } u).toArray T.inplace_Reader (0, 0)) :: pt b (.cells (bufC (x) c d) T.pages_Buffer (0, 0)) :: isRow c (x).wr :: isRow d (x).hr :: G)) := by
  have hrow := isRow_ok h (.there (.there .here))
  have hb : 0 ≤ x.wd y.lock ∧ x.wd y.lock ≤ 18446744073709551615 := RowM.getD_ok hrow _
  refine ret_of is_inplace_Reader_check rfl ?_
  repeat' (first | (refine gCR F.pages_Buffer_Load ?_; refine r_call rfl rfl rfl (pages_Buffer_Load_spec y.lock l0 l1 hok (h.rf3)) ?_; rw [if_pos hin, if_pos hin, buf_load hok]; rintro _ w ⟨rfl, h⟩; refine nowa ?_) | refine stP ?_ | (refine stC1_P18r ?_; rintro _ w ⟨rfl, h⟩) | (refine stD2_P18r ?_; rintro _ w ⟨rfl, h⟩ <;> refine nowa ?_) | (refine p_cmp rfl rfl rfl rfl (fun hc => ?_) (fun hc => ?_) <;> simp only [cmpProp] at hc) | (refine r_cmp rfl rfl rfl rfl rfl (fun hc => ?_) (fun hc => ?_) <;> simp only [cmpProp] at hc) | (refine x_drawn rfl ?_; have h := h.drew) | refine x_drawn rfl ?_ | fail)
  exact x_ret' is_inplace_Reader_check rfl ⟨rfl, h.pm4⟩

set_option maxHeartbeats 8000000 in
theorem inplace_Reader_check_done {b c d r k : Nat} {x : BufM} {y : RdM} {u : Value} {l : List Int} (l0 : 0 ≤ y.lock) (l1 : y.lock ≤ 18446744073709551615) (hok : BufOk x) (hin : x.isIn y.lock) (hl : x.wd y.lock = y.seen) (hk : y.n = k) (hlk : l.length = (k + 7) / 8) (hlb : ∀ i, 0 ≤ l.getD i 0 ∧ l.getD i 0 ≤ 18446744073709551615) (hl1 : l.length ≤ 1000000) (ht : tailOk l k) (h : Sat S w (pt r (.cells (rdC b y u).toArray T.inplace_Reader (0, 0)) :: ownS T.uint64 1 u (ints .u64 l) :: pt b (.cells (bufC (x) c d) T.pages_Buffer (0, 0)) :: isRow c (x).wr :: isRow d (x).hr :: G)) :
    Ret Try.prog F.inplace_Reader_check #[.pointer (some ⟨r, 0, none⟩)] w (fun v w' => v = .tuple #[.int .i64 2, .int .i64 0] ∧ Sat S w' (pt r (.cells (rdC b { y with st := 4, value := strOfNums (bytesZ l k) } u).toArray T.inplace_Reader (0, 0)) :: ownS T.uint64 1 u (ints .u64 l) :: pt b (.cells (bufC (x) c d) T.pages_Buffer (0, 0)) :: isRow c (x).wr :: isRow d (x).hr :: G)) := by
  have hrow := isRow_ok h (.there (.there (.there .here)))
  have hb : 0 ≤ x.wd y.lock ∧ x.wd y.lock ≤ 18446744073709551615 := RowM.getD_ok hrow _
  obtain ⟨lk, vl2, wds, st, n, seen, value⟩ := y
  simp only at *
  subst hk
  refine ret_of is_inplace_Reader_check rfl ?_
  repeat' (first | (refine gCR F.pages_Buffer_Load ?_; refine r_call rfl rfl rfl (pages_Buffer_Load_spec lk l0 l1 hok (h.rf3)) ?_; rw [if_pos hin, if_pos hin, buf_load hok]; rintro _ w ⟨rfl, h⟩; refine nowa ?_) | (refine gCR F.field_Bytes ?_; refine r_call rfl rfl rfl (field_Bytes_ok l k hlk hl1 hlb (fun w h => ownS_rd h (by repeat first | exact .here | apply Has.there)) h) ?_; rintro _ w ⟨⟨s, z, rfl, hz1, hz2, hz3⟩, h⟩; have hz := hz1.2 ht; subst hz; have hs := hz2 rfl; subst hs; refine nowa ?_) | refine stP ?_ | (refine stC1_P18r ?_; rintro _ w ⟨rfl, h⟩) | (refine stD2_P18r ?_; rintro _ w ⟨rfl, h⟩ <;> refine nowa ?_) | (refine p_cmp rfl rfl rfl rfl (fun hc => ?_) (fun hc => ?_) <;> simp only [cmpProp] at hc) | (refine r_cmp rfl rfl rfl rfl rfl (fun hc => ?_) (fun hc => ?_) <;> simp only [cmpProp] at hc) | (refine x_drawn rfl ?_; have h := h.drew) | refine x_drawn rfl ?_ | fail)
  exact x_ret' is_inplace_Reader_check rfl ⟨rfl, h.pm5⟩
end
end Go.Proofs.Ytjoicobfjpaepaa
