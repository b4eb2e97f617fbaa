/- Layer 18 (inplace): the move that writes . -/
import Derived.Test.YtjoicobfjpaepaaHxS
import Derived.Test.YtjoicobfjpaepaaP18e
namespace Go.Proofs.Ytjoicobfjpaepaa
open Go Go.HX
attribute [local irreducible] Ret XRun XOps XDr XOne Does Gives
set_option maxRecDepth 4000
set_option maxHeartbeats 1000000
theorem stC0_P18w {goal next : Prop} (k : next) (hs : Hid next → goal := by (intro k; (first | (refine gC F.inplace_Writer_goes ?_; refine p_call rfl rfl (inplace_Writer_goes_spec _ (h.rf1)) ?_) | (refine gS ?_; (first | refine p_do rfl (d_stwL rfl rfl rfl rfl rfl (h.pick (by repeat first | exact .here | apply Has.there)) (by first | (dsimp only [Value.cells]; done) | exact rfl)) ?_ | refine p_do rfl (d_stL rfl rfl rfl (h.pick (by repeat first | exact .here | apply Has.there)) (by first | exact of_decide_eq_true rfl | simp) (by first | (dsimp only [List.set]; done) | exact rfl)) ?_)) | fail); exact k.out)) : goal := hs ⟨k⟩
theorem stD1_P18w {goal next : Prop} (k : next) (hs : Hid next → goal := by (intro k; (first | (refine gCR F.pages_Buffer_Store ?_; refine r_call rfl rfl rfl (pages_Buffer_Store_spec _ _ ?_ ?_ ?_ ?_ ?_ (h.rf3)) ?_; iterate 5 (first | assumption | omega | (simp only []; omega) | decide)) | fail); exact k.out)) : goal := hs ⟨k⟩
section
variable {S : SP} {w : World} {G : List HProp}

set_option maxHeartbeats 8000000 in
theorem inplace_Writer_write_spec {b c d r k : Nat} {x : BufM} {y : WrM} {va : Option Addr} {vl vc : Nat} {l : List Int} (l0 : 0 ≤ y.val) (l1 : y.val + k ≤ 18446744073709551615) (hat : y.at_ = k) (hk : k < l.length) (hk2 : k ≤ 1000) (hlb : ∀ z ∈ l, 0 ≤ z ∧ z ≤ 18446744073709551615) (hok : BufOk x) (hin : x.isIn (y.val + k)) (h : Sat S w (pt r (.cells (wrC b y (.slice va vl vc)).toArray T.inplace_Writer (0, 0)) :: ownS T.uint64 1 (.slice va vl vc) (ints .u64 l) :: pt b (.cells (bufC (x) c d) T.pages_Buffer (0, 0)) :: isRow c (x).wr :: isRow d (x).hr :: G)) :
    Ret Try.prog F.inplace_Writer_write #[.pointer (some ⟨r, 0, none⟩)] w (fun v w' => v = .tuple #[.int .i64 1, .int .i64 0] ∧ Sat S w' (pt r (.cells (wrC b { y with st := WrM.next { y with at_ := (k : Int) + 1 } 2, at_ := (k : Int) + 1 } (.slice va vl vc)).toArray T.inplace_Writer (0, 0)) :: ownS T.uint64 1 (.slice va vl vc) (ints .u64 l) :: pt b (.cells (bufC ({ x with wr := x.wr.store (x.cell (y.val + k)) (l.getD k 0) }) c d) T.pages_Buffer (0, 0)) :: isRow c ({ x with wr := x.wr.store (x.cell (y.val + k)) (l.getD k 0) }).wr :: isRow d ({ x with wr := x.wr.store (x.cell (y.val + k)) (l.getD k 0) }).hr :: G)) := by
  obtain ⟨z, hz⟩ := has_elem hk
  have hzb := hlb z (List.mem_of_getElem? hz)
  have hgz : l.getD k 0 = z := by rw [List.getD_eq_getElem?_getD, hz]; rfl
  rw [hgz]
  obtain ⟨_, _, _, he, hlen, _⟩ := ownS_slice h (.there .here)
  cases he
  rw [ints_length, Nat.mul_one] at hlen
  obtain ⟨pa, rfl⟩ := ownS_addr (E := T.uint64) h (.there .here) (by omega)
  obtain ⟨lk, vl2, wds, st, ad, n, at_, held⟩ := y
  simp only at hat l0 l1 hin ⊢
  subst hat
  refine ret_of is_inplace_Writer_write rfl ?_
  repeat' (first | (refine gCR F.pages_Buffer_Store ?_; refine r_call rfl rfl rfl (pages_Buffer_Store_spec (vl2 + k) z (by omega) l1 hzb.1 hzb.2 hok (h.rf3)) ?_; rw [if_pos hin, if_pos hin]; rintro _ w ⟨rfl, h⟩; refine nowa ?_) | (refine gLR ?_; refine r_own rfl rfl rfl h (fun w h => g_ldI (i := k) rfl (ownS_rd h (.there .here)) (by dsimp only; omega) (by omega)) ?_; rw [hgz]) | refine stP ?_ | (refine stC0_P18w ?_; rintro _ w ⟨rfl, h⟩) | (refine stD1_P18w ?_; rintro _ w ⟨rfl, h⟩ <;> refine nowa ?_) | (refine p_cmp rfl rfl rfl rfl (fun hc => ?_) (fun hc => ?_) <;> simp only [cmpProp] at hc) | (refine r_cmp rfl rfl rfl rfl rfl (fun hc => ?_) (fun hc => ?_) <;> simp only [cmpProp] at hc) | (refine x_drawn rfl ?_; have h := h.drew) | refine x_drawn rfl ?_ | fail)
  refine p_call rfl rfl (inplace_Writer_goes_spec (b := b) (x := ⟨lk, vl2, wds, st, ad, n, (k : Int) + 1, held⟩) (u := .slice (some ⟨pa, 0, none⟩) vl vc) 2 (h.rf1)) ?_
  rintro _ w ⟨rfl, h⟩
  repeat' (first | refine stPs ?_ | (refine stC0_P18w ?_; rintro _ w ⟨rfl, h⟩) | (refine stD1_P18w ?_; rintro _ w ⟨rfl, h⟩ <;> refine nowa ?_) | (refine p_cmp rfl rfl rfl rfl (fun hc => ?_) (fun hc => ?_) <;> simp only [cmpProp] at hc) | (refine r_cmp rfl rfl rfl rfl rfl (fun hc => ?_) (fun hc => ?_) <;> simp only [cmpProp] at hc) | (refine x_drawn rfl ?_; have h := h.drew) | refine x_drawn rfl ?_ | fail)
  exact x_ret' is_inplace_Writer_write rfl ⟨rfl, h.pm5⟩
end
end Go.Proofs.Ytjoicobfjpaepaa
