/- Layer 33 (grow): the statement GrowParts. -/
import Derived.Test.YtmlkeackapflhaaHxS
import Derived.Test.YtmlkeackapflhaaW33
namespace Go.Proofs.Ytmlkeackapflhaa
open Go Go.HX
attribute [local irreducible] Ret XRun XOps XDr XOne Does Gives
set_option maxRecDepth 4000
set_option maxHeartbeats 1000000
theorem stC0_W33b {goal next : Prop} (k : next) (hs : Hid next → goal := by (intro k; (first | (refine gC F.law33_awake ?_; refine p_call rfl rfl (law33_awake_spec h) ?_) | (refine gC F.grow_Needs ?_; refine p_call rfl rfl (grow_Needs_spec ?_ ?_ (h.rf3)) ?_; iterate 2 (first | assumption | omega | (simp only []; omega) | decide)) | (refine gC F.grow_Needs ?_; refine p_call rfl rfl (grow_Needs_nil _ h) ?_) | (refine gC F.grow_Twice ?_; refine p_call rfl rfl (grow_Twice_nil _ _ h) ?_) | (refine gC F.index_Index_Look ?_; refine p_call rfl rfl (index_Index_Look_nil _ h) ?_) | (refine gC F.index_Index_Look ?_; refine p_call rfl rfl (index_Index_Look_spec _ ?_ ?_ ?_ (h.rf2)) ?_; iterate 3 (first | assumption | omega | (simp only []; omega) | decide)) | (refine gC F.grow_Addr ?_; refine p_call rfl rfl (grow_Addr_spec _ ?_ ?_ ?_ (h.rf3)) ?_; iterate 3 (first | assumption | omega | (simp only []; omega) | decide)) | (refine gC F.grow_Addr ?_; refine p_call rfl rfl (grow_Addr_nil _ h) ?_) | (refine gC F.index_Index_Turn ?_; refine p_call rfl rfl (index_Index_Turn_nil _ _ _ h) ?_) | (refine gC F.index_Index_Turn ?_; refine p_call rfl rfl (index_Index_Turn_spec _ _ _ ?_ ?_ ?_ (h.rf3)) ?_; iterate 3 (first | assumption | omega | (simp only []; omega) | decide)) | (refine gS ?_; (first | refine p_do rfl (d_stwL rfl rfl rfl rfl rfl (h.pick (by repeat first | exact .here | apply Has.there)) (by first | (dsimp only [Value.cells]; done) | exact rfl)) ?_ | refine p_do rfl (d_stL rfl rfl rfl (h.pick (by repeat first | exact .here | apply Has.there)) (by first | exact of_decide_eq_true rfl | simp) (by first | (dsimp only [List.set]; done) | exact rfl)) ?_)) | fail); exact k.out)) : goal := hs ⟨k⟩
theorem stC1_W33b {goal next : Prop} (k : next) (hs : Hid next → goal := by (intro k; (first | (refine gC F.grow_Twice ?_; refine p_call rfl rfl (grow_Twice_spec ?_ ?_ ?_ ?_ (h.rf3)) ?_; iterate 4 (first | assumption | omega | (simp only []; omega) | decide)) | fail); exact k.out)) : goal := hs ⟨k⟩
theorem stC2_W33b {goal next : Prop} (k : next) (hs : Hid next → goal := by (intro k; (first | (refine gN ?_; refine p_do rfl (d_newL h (by first | (dsimp only [Value.cells]; done) | exact rfl)) ?_) | fail); exact k.out)) : goal := hs ⟨k⟩
theorem shr_tag {g : Int} : shr64 g 50 = tagZ g := by rw [shr64_small (by decide)]; rfl
section
variable {S : SP} {w : World} {G : List HProp}

set_option maxHeartbeats 16000000 in
theorem law33_GrowParts_spec {v2 : Value} (n s : Int) (l : List Act17) (g o a : Int) (hA : Old S 8 v2 (rows act17C l)) (hl : ∀ a ∈ l, (0 ≤ a.h ∧ a.h ≤ 18446744073709551615) ∧ 0 ≤ a.addr) (g0 : 0 ≤ g) (g1 : g ≤ 18446744073709551615) (o0 : 0 ≤ o) (o1 : o ≤ 18446744073709551615) (a0 : 0 ≤ a) (h : Sat S w G) :
    Ret Try.prog F.law33_GrowParts #[.int .i64 n, .int .i64 s, v2, .int .u64 g, .int .u64 o, .int .u64 a] w (fun v w' => v = .bool true ∧ Sat S w' []) := by
  obtain ⟨a2, l2, c2, rfl, _⟩ := hA _ w h
  refine ret_of is_law33_GrowParts rfl ?_
  repeat' (first | (refine gC F.law33_begin ?_; refine p_call rfl rfl (law33_begin_spec n s l hA hl h) ?_; rintro _ w (⟨rfl, h⟩ | ⟨b, c, d, m, q, len, cap, x, rfl, ⟨Cs, hF⟩, rfl, hnb, hsp, h⟩)) | refine stP ?_ | (refine stC0_W33b ?_; rintro _ w ⟨rfl, h⟩) | (refine stC1_W33b ?_; rintro _ w ⟨b2, c2, d2, y, rfl, hq1, h⟩) | (refine stC2_W33b ?_; rintro _ w ⟨bx, rfl, h⟩) | (refine p_cmp rfl rfl rfl rfl (fun hc => ?_) (fun hc => ?_) <;> simp only [cmpProp] at hc) | (refine r_cmp rfl rfl rfl rfl rfl (fun hc => ?_) (fun hc => ?_) <;> simp only [cmpProp] at hc) | (refine x_drawn rfl ?_; have h := h.drew) | refine x_drawn rfl ?_ | fail)
  · exact x_ret' is_law33_GrowParts rfl ⟨rfl, h.nil⟩
  have hnl := need_le hF
  have hcap := hF.ch.cap
  have hmay := hF.may
  have hm1 := mayN_le hmay
  refine p_call rfl rfl (grow_Needs_spec hF (by omega) (h.rf3)) ?_
  rintro _ w ⟨rfl, h⟩
  refine p_call rfl rfl (grow_Twice_spec hF (by omega) (Nat.le_refl _) (by omega) (h.rf3)) ?_
  rintro _ w ⟨b2, c2', d2, y, rfl, hy, h⟩
  obtain ⟨ynb, ysp, Ds, hyF, _⟩ := hy
  have hbk : ∀ z, bucketZ z y.nb = z % (2 * (x.nb : Int)) := fun z => by
    rw [ynb, bucketZ, if_pos (mayN_twice hmay (by omega))]
    rfl
  have hok := hyF.ok
  have hio := hok.ok
  have hlb := look_bnd hok g
  obtain ⟨lk, hlv⟩ : ∃ lk, lookV y g = lk := ⟨_, rfl⟩
  by_cases hc : lk.kind = 1 ∧ 1 ≤ a ∧ a ≤ 281474976710655
  · obtain ⟨hk, ha1, ha2⟩ := hc
    obtain ⟨ht, hF2, _, htold, _⟩ := grow_found hyF (y := g) (a := a) (by rw [hlv]; exact hk) ha1 ha2
    rw [hlv] at hlb ht
    have hag : addrV (growX y g a) g = a := by unfold addrV; rw [htold, if_pos ⟨rfl, rfl⟩]; rfl
    have hao : addrV (growX y g a) o = if o % (2 * (x.nb : Int)) = g % (2 * (x.nb : Int)) ∧ tagZ o = tagZ g then a else addrV y o := by
      unfold addrV
      rw [htold, hbk, hbk]
      split <;> rfl
    have hm0 : 0 ≤ g % (2 * (x.nb : Int)) ∧ 0 ≤ o % (2 * (x.nb : Int)) := ⟨Int.emod_nonneg _ (by omega), Int.emod_nonneg _ (by omega)⟩
    obtain ⟨z, hz⟩ : ∃ z, growX y g a = z := ⟨_, rfl⟩
    rw [hz] at ht hF2 hag hao
    have s1 : shr64 g 50 = tagZ g := shr_tag
    have s2 : shr64 o 50 = tagZ o := shr_tag
    by_cases hsm : o % (2 * (x.nb : Int)) = g % (2 * (x.nb : Int)) ∧ tagZ o = tagZ g
    · rw [if_pos hsm] at hao
      repeat' (first | (refine gC F.index_Index_Look ?_; refine p_call rfl rfl (index_Index_Look_spec (b := b2) _ g0 g1 hio (h.rf2)) ?_; rw [hlv]; rintro _ w ⟨rfl, h⟩) | (refine gC F.grow_Addr ?_; first | (refine p_call rfl rfl (grow_Addr_spec (x := y) (b := b2) o hyF o0 o1 (h.rf3)) ?_; rintro _ w ⟨rfl, h⟩) | (refine p_call rfl rfl (grow_Addr_spec (x := z) (b := b2) g hF2 g0 g1 (h.rf3)) ?_; rw [hag]; rintro _ w ⟨rfl, h⟩) | (refine p_call rfl rfl (grow_Addr_spec (x := z) (b := b2) o hF2 o0 o1 (h.rf3)) ?_; rw [hao]; rintro _ w ⟨rfl, h⟩)) | (refine gC F.index_Index_Turn ?_; refine p_call rfl rfl (index_Index_Turn_spec (b := b2) lk.slot lk.word a (by omega) (by omega) a0 (h.rf3)) ?_; rw [ht]; rintro _ w ⟨rfl, h⟩) | (refine gR .rem ?_; refine r_pure rfl rfl rfl (fun _ => g_rem_u rfl rfl (by omega) (by omega)) ?_) | (refine gR .shr ?_; refine r_pure rfl rfl rfl (fun _ => g_shr_u rfl (by omega)) ?_) | refine stP ?_ | (refine stC0_W33b ?_; rintro _ w ⟨rfl, h⟩) | (refine stC1_W33b ?_; rintro _ w ⟨b2, c2, d2, y, rfl, hq1, h⟩) | (refine stC2_W33b ?_; rintro _ w ⟨bx, rfl, h⟩) | (refine p_cmp rfl rfl rfl rfl (fun hc => ?_) (fun hc => ?_) <;> simp only [cmpProp] at hc) | (refine r_cmp rfl rfl rfl rfl rfl (fun hc => ?_) (fun hc => ?_) <;> simp only [cmpProp] at hc) | (refine x_drawn rfl ?_; have h := h.drew) | refine x_drawn rfl ?_ | fail)
      all_goals first | (exfalso; omega) | exact x_ret' is_law33_GrowParts rfl ⟨rfl, h.nil⟩
    · rw [if_neg hsm] at hao
      repeat' (first | (refine gC F.index_Index_Look ?_; refine p_call rfl rfl (index_Index_Look_spec (b := b2) _ g0 g1 hio (h.rf2)) ?_; rw [hlv]; rintro _ w ⟨rfl, h⟩) | (refine gC F.grow_Addr ?_; first | (refine p_call rfl rfl (grow_Addr_spec (x := y) (b := b2) o hyF o0 o1 (h.rf3)) ?_; rintro _ w ⟨rfl, h⟩) | (refine p_call rfl rfl (grow_Addr_spec (x := z) (b := b2) g hF2 g0 g1 (h.rf3)) ?_; rw [hag]; rintro _ w ⟨rfl, h⟩) | (refine p_call rfl rfl (grow_Addr_spec (x := z) (b := b2) o hF2 o0 o1 (h.rf3)) ?_; rw [hao]; rintro _ w ⟨rfl, h⟩)) | (refine gC F.index_Index_Turn ?_; refine p_call rfl rfl (index_Index_Turn_spec (b := b2) lk.slot lk.word a (by omega) (by omega) a0 (h.rf3)) ?_; rw [ht]; rintro _ w ⟨rfl, h⟩) | (refine gR .rem ?_; refine r_pure rfl rfl rfl (fun _ => g_rem_u rfl rfl (by omega) (by omega)) ?_) | (refine gR .shr ?_; refine r_pure rfl rfl rfl (fun _ => g_shr_u rfl (by omega)) ?_) | refine stP ?_ | (refine stC0_W33b ?_; rintro _ w ⟨rfl, h⟩) | (refine stC1_W33b ?_; rintro _ w ⟨b2, c2, d2, y, rfl, hq1, h⟩) | (refine stC2_W33b ?_; rintro _ w ⟨bx, rfl, h⟩) | (refine p_cmp rfl rfl rfl rfl (fun hc => ?_) (fun hc => ?_) <;> simp only [cmpProp] at hc) | (refine r_cmp rfl rfl rfl rfl rfl (fun hc => ?_) (fun hc => ?_) <;> simp only [cmpProp] at hc) | (refine x_drawn rfl ?_; have h := h.drew) | refine x_drawn rfl ?_ | fail)
      all_goals first | (exfalso; omega) | exact x_ret' is_law33_GrowParts rfl ⟨rfl, h.nil⟩
  · rw [hlv] at hlb
    repeat' (first | (refine gC F.index_Index_Look ?_; refine p_call rfl rfl (index_Index_Look_spec (b := b2) _ g0 g1 hio (h.rf2)) ?_; rw [hlv]; rintro _ w ⟨rfl, h⟩) | refine stP ?_ | (refine stC0_W33b ?_; rintro _ w ⟨rfl, h⟩) | (refine stC1_W33b ?_; rintro _ w ⟨b2, c2, d2, y, rfl, hq1, h⟩) | (refine stC2_W33b ?_; rintro _ w ⟨bx, rfl, h⟩) | (refine p_cmp rfl rfl rfl rfl (fun hc => ?_) (fun hc => ?_) <;> simp only [cmpProp] at hc) | (refine r_cmp rfl rfl rfl rfl rfl (fun hc => ?_) (fun hc => ?_) <;> simp only [cmpProp] at hc) | (refine x_drawn rfl ?_; have h := h.drew) | refine x_drawn rfl ?_ | fail)
    all_goals first | (exfalso; omega) | exact x_ret' is_law33_GrowParts rfl ⟨rfl, h.nil⟩
theorem GrowParts_law (a0 a1 : Int) (a2 : Option Addr) (len2 cap2 : Nat) (a3 a4 a5 : Int) (W : World) (_w0 : (Lit.int .i64 a0).wf = true) (_w1 : (Lit.int .i64 a1).wf = true) (w2 : Arg W (.sl (.st (.pair (.int .i64) (.pair (.int .u64) (.pair (.int .i64) (.pair (.int .u64) (.pair .bool (.pair (.int .u64) (.pair (.int .i64) (.pair (.int .i64) .unit)))))))))) [.slice a2 len2 cap2]) (w3 : (Lit.int .u64 a3).wf = true) (w4 : (Lit.int .u64 a4).wf = true) (w5 : (Lit.int .u64 a5).wf = true) :
    Ret Try.prog F.law33_GrowParts #[.int .i64 a0, .int .i64 a1, .slice a2 len2 cap2, .int .u64 a3, .int .u64 a4, .int .u64 a5] W (fun v w' => v = .bool true ∧ Sat ⟨W.heap.size, W⟩ w' []) := by
  obtain ⟨a, len, cap, els, he, _, _, hr, hall⟩ := w2
  simp at he
  obtain ⟨rfl, rfl, rfl⟩ := he
  obtain ⟨l, rfl, _, hl⟩ := list_of (f := act17C) (p := fun x => (0 ≤ x.h ∧ x.h ≤ 18446744073709551615) ∧ 0 ≤ x.addr) (fun c hc => arg_act17 (hall c hc))
  exact law33_GrowParts_spec a0 a1 l a3 a4 a5 (fun G w h => hr.later h) hl (wf_u64 w3).1 (wf_u64 w3).2 (wf_u64 w4).1 (wf_u64 w4).2 (wf_u64 w5).1 (Sat.begin W)
end
end Go.Proofs.Ytmlkeackapflhaa
