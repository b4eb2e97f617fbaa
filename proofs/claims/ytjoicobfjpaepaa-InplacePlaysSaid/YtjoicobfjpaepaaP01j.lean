/- Layer 1 (field), many fields: what each function computes. -/
import Derived.Test.YtjoicobfjpaepaaHxS
import Derived.Test.YtjoicobfjpaepaaP01
import Derived.Test.YtjoicobfjpaepaaL01j
namespace Go.Proofs.Ytjoicobfjpaepaa
open Go Go.HX
attribute [local irreducible] Ret XRun XOps XDr XOne Does Gives
set_option maxRecDepth 4000
set_option maxHeartbeats 1000000
section
variable {S : SP} {w : World} {G : List HProp}

theorem field_fit_spec {v : Value} (ns : List Int) (h63 : ns.length ≤ 9223372036854775807) (hb : ∀ i, -9223372036854775808 ≤ ns.getD i 0 ∧ ns.getD i 0 ≤ 9223372036854775807) (hr : ∀ w, Sat S w G → RdS w 1 v (ints .i64 ns)) (h : Sat S w G) :
    Ret Try.prog F.field_fit #[v] w (fun v w' => BoolIs v (fitP 64 ns) ∧ Sat S w' G) := by
  obtain ⟨a, len, cap, rfl, _, _, _⟩ := hr w h
  have hlen : ns.length = len := (hr w h).ilen
  refine ret_of is_field_fit rfl ?_
  repeat' (first | refine stPs ?_ | (refine p_cmp rfl rfl rfl rfl (fun hc => ?_) (fun hc => ?_) <;> simp only [cmpProp] at hc) | fail)
  refine x_keep [3, 6, 7, 8] rfl ?_
  refine x_loop_inv (fun m e w => ∃ (i : Nat) (left : Int), m = len - i ∧ i ≤ len ∧ 0 ≤ left ∧ left ≤ 64 ∧ (fitP left (ns.drop i) ↔ fitP 64 ns) ∧ e = [(3, .int .i64 left), (6, .slice a len cap), (7, .int .i64 len), (8, .int .i64 i)] ∧ Sat S w G) len ⟨0, 64, rfl, by omega, by omega, by omega, Iff.rfl, rfl, h⟩ ?_
  clear h
  rintro m e w ⟨i, left, rfl, hi, l0, l1, hf, rfl, h⟩ ih
  by_cases h1 : i = len
  · repeat' (first | refine stPs ?_ | (refine p_cmp rfl rfl rfl rfl (fun hc => ?_) (fun hc => ?_) <;> simp only [cmpProp] at hc) | fail)
    refine x_ret' is_field_fit rfl ⟨.t (hf.1 ?_), h⟩
    rw [List.drop_eq_nil_of_le (by omega)]
    trivial
  · have hrd := hr w h
    obtain ⟨b, o, rfl⟩ := hrd.addr (by omega)
    have hbi := hb i
    rw [fitP_drop (by omega)] at hf
    generalize hq : ns.getD i 0 = q at *
    repeat' (first | (refine p_val rfl (g_ldI (i := i) rfl hrd (by omega) (by omega)) ?_; rw [hq]) | refine stP ?_ | (refine p_cmp rfl rfl rfl rfl (fun hc => ?_) (fun hc => ?_) <;> simp only [cmpProp] at hc) | fail)
    · exact x_ret' is_field_fit rfl ⟨.f (fun hx => by have := hf.2 hx; omega), h⟩
    · exact x_ret' is_field_fit rfl ⟨.f (fun hx => by have := hf.2 hx; omega), h⟩
    · refine x_keep [3, 6, 7, 8] rfl (ih _ _ _ (by omega) ⟨i + 1, left - q, rfl, by omega, by omega, by omega, ?_, rfl, h⟩)
      rw [← hf]
      exact ⟨fun hx => ⟨by omega, by omega, hx⟩, fun hx => hx.2.2⟩

theorem field_Join_spec {v1 v2 : Value} (vs ns : List Int) (h63 : ns.length ≤ 9223372036854775807) (hb : ∀ i, -9223372036854775808 ≤ ns.getD i 0 ∧ ns.getD i 0 ≤ 9223372036854775807) (hv : ∀ i, 0 ≤ vs.getD i 0) (hr1 : ∀ w, Sat S w G → RdS w 1 v1 (ints .u64 vs)) (hr2 : ∀ w, Sat S w G → RdS w 1 v2 (ints .i64 ns)) (h : Sat S w G) :
    Ret Try.prog F.field_Join #[v1, v2] w (fun v w' => v = (if vs.length = ns.length ∧ fitP 64 ns then .tuple #[.int .u64 (joinV 0 0 vs ns).1, .int .i64 (joinV 0 0 vs ns).2] else .tuple #[.int .u64 0, .int .i64 1]) ∧ Sat S w' G) := by
  obtain ⟨a1, len1, cap1, rfl, _, _, _⟩ := hr1 w h
  obtain ⟨a, len, cap, rfl, _, _, _⟩ := hr2 w h
  have hlen1 : vs.length = len1 := (hr1 w h).ilen
  have hlen : ns.length = len := (hr2 w h).ilen
  refine ret_of is_field_Join rfl ?_
  repeat' (first | (refine p_call rfl rfl (field_fit_spec ns h63 hb hr2 h) ?_; rintro _ _ ⟨⟨rfl, hf⟩ | ⟨rfl, hf⟩, h⟩) | refine stP ?_ | (refine p_cmp rfl rfl rfl rfl (fun hc => ?_) (fun hc => ?_) <;> simp only [cmpProp] at hc) | fail)
  · exact x_ret' is_field_Join rfl ⟨by rw [if_neg (by omega)]; rfl, h⟩
  · obtain rfl : len = len1 := by omega
    rw [if_pos ⟨by omega, hf⟩]
    refine x_keep [0, 6, 7, 22, 23, 24] rfl ?_
    refine x_loop_inv (fun m e w => ∃ (i : Nat) (x : Int), m = len - i ∧ i ≤ len ∧ 0 ≤ x ∧ x ≤ 18446744073709551615 ∧ joinV x (placeZ ns i) (vs.drop i) (ns.drop i) = joinV 0 0 vs ns ∧ e = [(0, .slice a1 len cap1), (6, .int .u64 x), (7, .int .i64 (placeZ ns i)), (22, .slice a len cap), (23, .int .i64 len), (24, .int .i64 i)] ∧ Sat S w G) len ⟨0, 0, rfl, by omega, by omega, by omega, rfl, rfl, h⟩ ?_
    clear h
    rintro m e w ⟨i, x, rfl, hi, x0, x1, hj, rfl, h⟩ ih
    by_cases h1 : i = len
    · rw [joinV_end _ _ (by omega)] at hj
      repeat' (first | refine stPs ?_ | (refine p_cmp rfl rfl rfl rfl (fun hc => ?_) (fun hc => ?_) <;> simp only [cmpProp] at hc) | fail)
      exact x_ret' is_field_Join rfl ⟨by rw [← hj]; rfl, h⟩
    · have hrd := hr2 w h
      have hrd1 := hr1 w h
      obtain ⟨b, o, rfl⟩ := hrd.addr (by omega)
      obtain ⟨b1, o1, rfl⟩ := hrd1.addr (by omega)
      have hbi := hb i
      have hvi := hv i
      have hfr := fit_right hf (i := i) (by omega)
      have hnx := placeZ_next (ns := ns) (i := i) (by omega)
      rw [joinV_drop _ _ (by omega) (by omega)] at hj
      generalize hq : ns.getD i 0 = q at *
      generalize hu : vs.getD i 0 = u at *
      generalize hz : placeZ ns i = z at *
      have hpb := putV_bounds (w := x) (at_ := z) (bits := q) (v := u) x0 x1 hvi
      repeat' (first | (refine p_val rfl (g_ldI (i := i) rfl hrd (by omega) (by omega)) ?_; rw [hq]) | (refine p_val rfl (g_ldI (i := i) rfl hrd1 (by omega) (by omega)) ?_; rw [hu]) | (refine p_call rfl rfl (field_Put_spec x z q u x0 x1 hvi h) ?_; rintro _ w ⟨rfl, h⟩) | refine stP ?_ | (refine p_cmp rfl rfl rfl rfl (fun hc => ?_) (fun hc => ?_) <;> simp only [cmpProp] at hc) | fail)
      · rw [if_neg hc] at hj
        exact x_ret' is_field_Join rfl ⟨by rw [← hj]; rfl, h⟩
      · rw [if_pos (by omega), ← hnx] at hj
        refine x_keep [0, 6, 7, 22, 23, 24] rfl (ih _ _ _ (by omega) ⟨i + 1, (putV x z q u).1, rfl, by omega, hpb.1, hpb.2, hj, by rw [hnx]; rfl, h⟩)
  · exact x_ret' is_field_Join rfl ⟨by rw [if_neg (fun hx => hf hx.2)]; rfl, h⟩

end
end Go.Proofs.Ytjoicobfjpaepaa