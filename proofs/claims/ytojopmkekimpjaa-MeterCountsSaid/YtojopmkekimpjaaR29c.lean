/- The reference of layer 29 (meter): measures. -/
import Derived.Test.YtojopmkekimpjaaHxS
import Derived.Test.YtojopmkekimpjaaR29b
namespace Go.Proofs.Ytojopmkekimpjaa
open Go Go.HX
attribute [local irreducible] Ret XRun XOps XDr XOne Does Gives
set_option maxRecDepth 4000
set_option maxHeartbeats 1000000
theorem stC0_R29c {goal next : Prop} (k : next) (hs : Hid next → goal := by (intro k; (first | (refine gN ?_; refine p_do rfl (d_newL h (by first | (dsimp only [Value.cells]; done) | exact rfl)) ?_) | fail); exact k.out)) : goal := hs ⟨k⟩
theorem stC1_R29c {goal next : Prop} (k : next) (hs : Hid next → goal := by (intro k; (first | (refine gS ?_; (first | refine p_do rfl (d_stwL rfl rfl rfl rfl rfl (h.pick (by repeat first | exact .here | apply Has.there)) (by first | (dsimp only [Value.cells]; done) | exact rfl)) ?_ | refine p_do rfl (d_stL rfl rfl rfl (h.pick (by repeat first | exact .here | apply Has.there)) (by first | exact of_decide_eq_true rfl | simp) (by first | (dsimp only [List.set]; done) | exact rfl)) ?_)) | fail); exact k.out)) : goal := hs ⟨k⟩
theorem stD2_R29c {goal next : Prop} (k : next) (hs : Hid next → goal := by (intro k; (first | (refine gSR ?_; (first | refine r_do rfl rfl (d_stwL rfl rfl rfl rfl rfl (h.pick (by repeat first | exact .here | apply Has.there)) (by first | (dsimp only [Value.cells]; done) | exact rfl)) ?_ | refine r_do rfl rfl (d_stL rfl rfl rfl (h.pick (by repeat first | exact .here | apply Has.there)) (by first | exact of_decide_eq_true rfl | simp) (by first | (dsimp only [List.set]; done) | exact rfl)) ?_)) | fail); exact k.out)) : goal := hs ⟨k⟩
/-- Measures: of waits in their order, of how many events, of how many that were open at once. -/
def measC (s : List Int) (n wide : Int) : List Value := [.int .i64 s.length, .int .i64 (n - s.length), .int .i64 (s.getD 0 0), .int .i64 (s.getD (s.length - 1) 0), .int .i64 (sumI s), .int .i64 (s.getD ((s.length - 1) / 2) 0), .int .i64 wide]
theorem sumI_next {s : List Int} {k : Nat} {z : Int} (hz : s[k]? = some z) : sumI (s.take (k + 1)) = sumI (s.take k) + z := by
  rw [take_next hz, sumI_app, sumI_cons]
  show _ + (z + 0) = _
  omega
theorem sum_bnd {s : List Int} (h : ∀ z ∈ s, 1 ≤ z ∧ z ≤ 999999999) (k : Nat) : 0 ≤ sumI (s.take k) ∧ sumI (s.take k) ≤ (s.length : Int) * 999999999 := by
  have h1 := sumI_bnd (l := s.take k) (fun z hz => h z (List.mem_of_mem_take hz))
  rw [List.length_take] at h1
  omega
section
variable {S : SP} {w : World} {G : List HProp}

set_option maxHeartbeats 8000000 in
theorem ref29_Measure_spec {v : Value} (l : List EvM) (hl : l.length ≤ 1000) (hm : mayE l) (hr : ∀ w, Sat S w G → RdS w 8 v (rows evC l)) (h : Sat S w G) :
    Ret Try.prog F.ref29_Measure #[v] w (fun u w' => u = .agg (measC (sortI (waitsE l)) l.length (wideN l l : Nat)).toArray ∧ Sat S w' G) := by
  obtain ⟨a, len, cap, rfl, _⟩ := hr w h
  have hlen := (hr w h).rlen evC_len (by decide)
  have hwl := (sortI_perm (waitsE l)).length_eq
  have hwl2 := waits_length l
  have hsb : ∀ z ∈ sortI (waitsE l), 1 ≤ z ∧ z ≤ 999999999 := fun z hz => waits_bnd hm z ((sortI_perm _).mem_iff.1 hz)
  refine ret_of is_ref29_Measure rfl ?_
  repeat' (first | (refine gC F.ref29_Waits ?_; refine p_call rfl rfl (ref29_Waits_spec l (by omega) hm (fun w h => hr w h.drop) h) ?_; intro u w h; obtain ⟨q2, rfl⟩ : ∃ q, q = bx := ⟨bx, rfl⟩; generalize hse : sortI (waitsE l) = s at *; obtain ⟨sa, sl, sc, rfl, hsl, _⟩ := ownS_slice h .here; rw [ints_length, Nat.mul_one] at hsl) | (refine gC F.ref29_Wide ?_; refine p_call rfl rfl (ref29_Wide_spec l (by omega) (fun w h => hr w h.drop.drop) h) ?_; rintro _ w ⟨rfl, h⟩) | refine stP ?_ | (refine stC0_R29c ?_; rintro _ w ⟨bx, rfl, h⟩) | (refine stC1_R29c ?_; rintro _ w ⟨rfl, h⟩) | (refine stD2_R29c ?_; rintro _ w ⟨rfl, h⟩ <;> refine nowa ?_) | (refine p_cmp rfl rfl rfl rfl (fun hc => ?_) (fun hc => ?_) <;> simp only [cmpProp] at hc) | (refine r_cmp rfl rfl rfl rfl rfl (fun hc => ?_) (fun hc => ?_) <;> simp only [cmpProp] at hc) | (refine x_drawn rfl ?_; have h := h.drew) | refine x_drawn rfl ?_ | fail)
  have hb := sum_bnd hsb
  obtain ⟨q4, rfl⟩ : ∃ q, q = bx := ⟨bx, rfl⟩
  refine x_keep [2, 3, 4, 5] rfl ?_
  refine x_loop_inv (fun lm le w => ∃ (k : Nat), lm = sl - k ∧ k ≤ sl ∧ le = [(2, .pointer (some ⟨q2, 0, none⟩)), (3, .slice sa sl sc), (4, .pointer (some ⟨q4, 0, none⟩)), (5, .int .i64 k)] ∧ Sat S w (pt q4 (.cells #[.int .i64 sl, .int .i64 (len - sl), .int .i64 0, .int .i64 0, .int .i64 (sumI (s.take k)), .int .i64 0, .int .i64 (wideN l l : Nat)] T.api_Waits (0, 0)) :: ownS T.int 1 (.slice sa sl sc) (ints .i64 s) :: pt q2 (.cells #[.int .i64 0, .int .i64 0, .int .i64 0, .int .i64 0, .int .i64 0, .int .i64 0, .int .i64 0] T.api_Waits (0, 0)) :: G)) (sl) ⟨0, rfl, by omega, rfl, h⟩ ?_
  clear h
  rintro lm le w ⟨k, rfl, hi0, rfl, h⟩ ih
  by_cases hk : k < sl
  · obtain ⟨z, hz⟩ := has_elem (show k < s.length by omega)
    have hgz : s.getD k 0 = z := by rw [List.getD_eq_getElem?_getD, hz]; rfl
    have hzb := hsb z (List.mem_of_getElem? hz)
    have hn := sumI_next hz
    have hb1 := hb k
    obtain ⟨sb, rfl⟩ := ownS_addr (E := T.int) h (.there .here) (by omega)
    repeat' (first | (refine gLR ?_; refine r_own rfl rfl rfl h (fun w h => g_ldI (i := k) (xs := s) rfl (ownS_rd h (by repeat first | exact .here | apply Has.there)) (by omega) (by omega)) ?_; rw [hgz]) | refine stP ?_ | (refine stC0_R29c ?_; rintro _ w ⟨bx, rfl, h⟩) | (refine stC1_R29c ?_; rintro _ w ⟨rfl, h⟩) | (refine stD2_R29c ?_; rintro _ w ⟨rfl, h⟩ <;> refine nowa ?_) | (refine p_cmp rfl rfl rfl rfl (fun hc => ?_) (fun hc => ?_) <;> simp only [cmpProp] at hc) | (refine r_cmp rfl rfl rfl rfl rfl (fun hc => ?_) (fun hc => ?_) <;> simp only [cmpProp] at hc) | (refine x_drawn rfl ?_; have h := h.drew) | refine x_drawn rfl ?_ | fail)
    rw [← hn] at h
    exact x_keep [2, 3, 4, 5] rfl (ih _ _ _ (by omega) ⟨k + 1, rfl, by omega, rfl, h⟩)
  · obtain rfl : k = sl := by omega
    rw [List.take_of_length_le (by omega)] at h
    by_cases hv : 0 < k
    · obtain ⟨sb, rfl⟩ := ownS_addr (E := T.int) h (.there .here) (by omega)
      have e1 : ((k : Int) - 1) / 2 = ((k - 1) / 2 : Nat) := by omega
      have hmid : (k - 1) / 2 < k := by omega
      repeat' (first | (refine gL ?_; first | (refine p_val rfl (g_ldI (i := 0) (xs := s) rfl (ownS_rd h (by repeat first | exact .here | apply Has.there)) (by omega) (by omega)) ?_) | (refine p_val rfl (g_ldI (i := k - 1) (xs := s) rfl (ownS_rd h (by repeat first | exact .here | apply Has.there)) (by omega) (by omega)) ?_) | (refine p_val rfl (g_ldI (i := (k - 1) / 2) (xs := s) rfl (ownS_rd h (by repeat first | exact .here | apply Has.there)) (by omega) (by omega)) ?_)) | refine stP ?_ | (refine stC0_R29c ?_; rintro _ w ⟨bx, rfl, h⟩) | (refine stC1_R29c ?_; rintro _ w ⟨rfl, h⟩) | (refine stD2_R29c ?_; rintro _ w ⟨rfl, h⟩ <;> refine nowa ?_) | (refine p_cmp rfl rfl rfl rfl (fun hc => ?_) (fun hc => ?_) <;> simp only [cmpProp] at hc) | (refine r_cmp rfl rfl rfl rfl rfl (fun hc => ?_) (fun hc => ?_) <;> simp only [cmpProp] at hc) | (refine x_drawn rfl ?_; have h := h.drew) | refine x_drawn rfl ?_ | fail)
      refine x_retc is_ref29_Measure (vs := [.agg _]) ⟨_, _, _, rfl, rfl, load_pt h (by kernel_rfl) rfl, rfl⟩ ⟨?_, h.drop.drop.drop⟩
      unfold measC
      rw [show s.length = k by omega, ← hlen]
      rfl
    · obtain rfl : k = 0 := by omega
      obtain rfl : s = [] := List.eq_nil_of_length_eq_zero (by omega)
      repeat' (first | refine stPs ?_ | (refine stC0_R29c ?_; rintro _ w ⟨bx, rfl, h⟩) | (refine stC1_R29c ?_; rintro _ w ⟨rfl, h⟩) | (refine stD2_R29c ?_; rintro _ w ⟨rfl, h⟩ <;> refine nowa ?_) | (refine p_cmp rfl rfl rfl rfl (fun hc => ?_) (fun hc => ?_) <;> simp only [cmpProp] at hc) | (refine r_cmp rfl rfl rfl rfl rfl (fun hc => ?_) (fun hc => ?_) <;> simp only [cmpProp] at hc) | (refine x_drawn rfl ?_; have h := h.drew) | refine x_drawn rfl ?_ | fail)
      refine x_retc is_ref29_Measure (vs := [.agg _]) ⟨_, _, _, rfl, rfl, load_pt h (by kernel_rfl) rfl, rfl⟩ ⟨?_, h.drop.drop.drop⟩
      rw [← hlen]
      rfl
end
end Go.Proofs.Ytojopmkekimpjaa
