/- Layer 18 (inplace): the moves of an adder. -/
import Derived.Test.YtjoicobfjpaepaaHxS
import Derived.Test.YtjoicobfjpaepaaP18d
namespace Go.Proofs.Ytjoicobfjpaepaa
open Go Go.HX
attribute [local irreducible] Ret XRun XOps XDr XOne Does Gives
set_option maxRecDepth 4000
set_option maxHeartbeats 1000000
theorem stC0_P18e {goal next : Prop} (k : next) (hs : Hid next → goal := by (intro k; (first | (refine gC F.inplace_Writer_goes ?_; refine p_call rfl rfl (inplace_Writer_goes_spec _ (h.rf1)) ?_) | fail); exact k.out)) : goal := hs ⟨k⟩
theorem stD1_P18e {goal next : Prop} (k : next) (hs : Hid next → goal := by (intro k; (first | (refine gCR F.pages_Buffer_Load ?_; refine r_call rfl rfl rfl (pages_Buffer_Load_spec _ ?_ ?_ ?_ (h.rf3)) ?_; iterate 3 (first | assumption | omega | (simp only []; omega) | decide)) | (refine gSR ?_; (first | refine r_do rfl rfl (d_stwL rfl rfl rfl rfl rfl (h.pick (by repeat first | exact .here | apply Has.there)) (by first | (dsimp only [Value.cells]; done) | exact rfl)) ?_ | refine r_do rfl rfl (d_stL rfl rfl rfl (h.pick (by repeat first | exact .here | apply Has.there)) (by first | exact of_decide_eq_true rfl | simp) (by first | (dsimp only [List.set]; done) | exact rfl)) ?_)) | fail); exact k.out)) : goal := hs ⟨k⟩
section
variable {S : SP} {w : World} {G : List HProp}

set_option maxHeartbeats 8000000 in
theorem inplace_Writer_read_spec {b c d r : Nat} {x : BufM} {y : WrM} {va : Option Addr} {vl vc : Nat} {l : List Int} (l0 : 0 ≤ y.val) (l1 : y.val ≤ 18446744073709551615) (hok : BufOk x) (hin : x.isIn y.val) (hl : 1 ≤ l.length) (h : Sat S w (pt r (.cells (wrC b y (.slice va vl vc)).toArray T.inplace_Writer (0, 0)) :: ownS T.uint64 1 (.slice va vl vc) (ints .u64 l) :: pt b (.cells (bufC (x) c d) T.pages_Buffer (0, 0)) :: isRow c (x).wr :: isRow d (x).hr :: G)) :
    Ret Try.prog F.inplace_Writer_read #[.pointer (some ⟨r, 0, none⟩)] w (fun v w' => v = .tuple #[.int .i64 1, .int .i64 0] ∧ Sat S w' (pt r (.cells (wrC b { y with st := y.next 2 } (.slice va vl vc)).toArray T.inplace_Writer (0, 0)) :: ownS T.uint64 1 (.slice va vl vc) (ints .u64 (l.set 0 ((x.wd y.val + y.n) % 18446744073709551616))) :: pt b (.cells (bufC (x) c d) T.pages_Buffer (0, 0)) :: isRow c (x).wr :: isRow d (x).hr :: G)) := by
  have hrow := isRow_ok h (.there (.there (.there .here)))
  have hb : 0 ≤ x.wd y.val ∧ x.wd y.val ≤ 18446744073709551615 := RowM.getD_ok hrow _
  obtain ⟨_, _, _, he, hlen, _⟩ := ownS_slice h (.there .here)
  cases he
  rw [ints_length, Nat.mul_one] at hlen
  obtain ⟨pa, rfl⟩ := ownS_addr (E := T.uint64) h (.there .here) (by omega)
  refine ret_of is_inplace_Writer_read rfl ?_
  repeat' (first | (refine gCR F.pages_Buffer_Load ?_; refine r_call rfl rfl rfl (pages_Buffer_Load_spec y.val l0 l1 hok (h.rf3)) ?_; rw [if_pos hin, if_pos hin, buf_load hok]; rintro _ w ⟨rfl, h⟩; refine nowa ?_) | (refine gR .add ?_; refine r_pure rfl rfl rfl (fun _ => g_addw_u rfl rfl) ?_) | refine stP ?_ | (refine stC0_P18e ?_; rintro _ w ⟨rfl, h⟩) | (refine stD1_P18e ?_; rintro _ w ⟨rfl, h⟩ <;> refine nowa ?_) | (refine p_cmp rfl rfl rfl rfl (fun hc => ?_) (fun hc => ?_) <;> simp only [cmpProp] at hc) | (refine r_cmp rfl rfl rfl rfl rfl (fun hc => ?_) (fun hc => ?_) <;> simp only [cmpProp] at hc) | (refine x_drawn rfl ?_; have h := h.drew) | refine x_drawn rfl ?_ | fail)
  refine r_do rfl rfl (d_stI (i := 0) rfl rfl (h.pick (by repeat first | exact .here | apply Has.there)) (by omega) (by omega)) ?_
  rintro _ w ⟨rfl, h⟩
  refine nowa ?_
  repeat' (first | refine stPs ?_ | (refine stC0_P18e ?_; rintro _ w ⟨rfl, h⟩) | (refine stD1_P18e ?_; rintro _ w ⟨rfl, h⟩ <;> refine nowa ?_) | (refine p_cmp rfl rfl rfl rfl (fun hc => ?_) (fun hc => ?_) <;> simp only [cmpProp] at hc) | (refine r_cmp rfl rfl rfl rfl rfl (fun hc => ?_) (fun hc => ?_) <;> simp only [cmpProp] at hc) | (refine x_drawn rfl ?_; have h := h.drew) | refine x_drawn rfl ?_ | fail)
  exact x_ret' is_inplace_Writer_read rfl ⟨rfl, h.pm5⟩
end
end Go.Proofs.Ytjoicobfjpaepaa
