/- The document's answers of layer 1: words of a text. -/
import Derived.Test.YtfchenbihepjaaaHxS
import Derived.Test.YtfchenbihepjaaaP01s
namespace Go.Proofs.Ytfchenbihepjaaa
open Go Go.HX
attribute [local irreducible] Ret XRun XOps XDr XOne Does Gives
set_option maxRecDepth 4000
set_option maxHeartbeats 1000000
/-- A word from the eighth byte down to the k-th. -/
def hornV (f : Nat → Nat) (st : Nat) : Nat → Nat
  | 0 => 0
  | d + 1 => hornV f st d * 256 + f (st + (7 - d))
theorem hornV_leV (f : Nat → Nat) (st : Nat) : ∀ d, d ≤ 8 → leV f st 8 = hornV f st d * 256 ^ (8 - d) + leV f st (8 - d)
  | 0, _ => by simp [hornV]
  | d + 1, h => by
    have ih := hornV_leV f st d (by omega)
    have e : 8 - d = (8 - (d + 1)) + 1 := by omega
    rw [ih, hornV, e, leV, Nat.pow_succ]
    have e2 : 8 - (d + 1) = 7 - d := by omega
    rw [e2, Nat.add_mul, Nat.mul_assoc]
    have : hornV f st d * (256 ^ (7 - d) * 256) = hornV f st d * (256 * 256 ^ (7 - d)) := by rw [Nat.mul_comm 256]
    omega
theorem hornV_eight (f : Nat → Nat) (st : Nat) : hornV f st 8 = leV f st 8 := by
  have := hornV_leV f st 8 (Nat.le_refl _)
  simpa [leV] using this.symm
theorem hornV_lt {f : Nat → Nat} (hf : ∀ i, f i < 256) (st : Nat) : ∀ d, hornV f st d < 256 ^ d
  | 0 => by simp [hornV]
  | d + 1 => by
    have := hornV_lt hf st d
    have := hf (st + (7 - d))
    rw [hornV, Nat.pow_succ]; omega
section
variable {S : SP} {w : World} {G : List HProp}

theorem ref01_Same_spec {v u : Value} (l m : List Int) (hr1 : ∀ w, Sat S w G → RdS w 1 v (ints .u64 l)) (hr2 : ∀ w, Sat S w G → RdS w 1 u (ints .u64 m)) (hl : l.length ≤ 100000000) (h : Sat S w G) :
    Ret Try.prog F.ref01_Same #[v, u] w (fun v w' => BoolIs v (l = m) ∧ Sat S w' G) := by
  obtain ⟨a1, len1, cap1, rfl, _⟩ := hr1 w h
  obtain ⟨a2, len2, cap2, rfl, _⟩ := hr2 w h
  have e1 := (hr1 w h).ilen
  have e2 := (hr2 w h).ilen
  refine ret_of is_ref01_Same rfl ?_
  repeat' (first | refine stPs ?_ | (refine p_cmp rfl rfl rfl rfl (fun hc => ?_) (fun hc => ?_) <;> simp only [cmpProp] at hc) | (refine r_cmp rfl rfl rfl rfl rfl (fun hc => ?_) (fun hc => ?_) <;> simp only [cmpProp] at hc) | (refine x_drawn rfl ?_; have h := h.drew) | refine x_drawn rfl ?_ | fail)
  · refine x_ret' is_ref01_Same rfl ⟨.f (fun he => ?_), h⟩
    rw [he] at e1
    omega
  · obtain rfl : len1 = len2 := by omega
    refine x_keep [0, 1, 5] rfl ?_
    refine x_loop_inv (fun lm le w => ∃ (i : Nat), lm = len1 - i ∧ i ≤ len1 ∧ l.take i = m.take i ∧ le = [(0, .slice a1 len1 cap1), (1, .slice a2 len1 cap2), (5, .int .i64 i)] ∧ Sat S w (G)) (len1) ⟨0, rfl, by omega, rfl, rfl, h⟩ ?_
    clear h
    rintro lm le w ⟨i, rfl, hi0, hi1, rfl, h⟩ ih
    by_cases h1 : i < len1
    · have hx : l[i]? = some (l.getD i 0) := by rw [List.getD_eq_getElem?_getD, List.getElem?_eq_getElem (by omega)]; rfl
      have hy : m[i]? = some (m.getD i 0) := by rw [List.getD_eq_getElem?_getD, List.getElem?_eq_getElem (by omega)]; rfl
      obtain ⟨b1, o1, rfl⟩ := (hr1 w h).addr (by omega)
      obtain ⟨b2, o2, rfl⟩ := (hr2 w h).addr (by omega)
      generalize hp : l.getD i 0 = p at *
      generalize hq : m.getD i 0 = q at *
      repeat' (first | (refine r_own rfl rfl rfl h (fun w h => g_ldI (i := i) rfl (hr1 w h) (by omega) (by omega)) ?_; rw [hp]) | (refine r_own rfl rfl rfl h (fun w h => g_ldI (i := i) rfl (hr2 w h) (by omega) (by omega)) ?_; rw [hq]) | refine stP ?_ | (refine p_cmp rfl rfl rfl rfl (fun hc => ?_) (fun hc => ?_) <;> simp only [cmpProp] at hc) | (refine r_cmp rfl rfl rfl rfl rfl (fun hc => ?_) (fun hc => ?_) <;> simp only [cmpProp] at hc) | (refine x_drawn rfl ?_; have h := h.drew) | refine x_drawn rfl ?_ | fail)
      · refine x_ret' is_ref01_Same rfl ⟨.f (fun he => hc ?_), h⟩
        subst he
        rw [hx] at hy
        injection hy
      · have hxy : p = q := by omega
        refine x_keep [0, 1, 5] rfl (ih _ _ _ (by omega) ⟨i + 1, rfl, by omega, by rw [take_next hx, take_next hy, hi1, hxy], rfl, h⟩)
    · obtain rfl : i = len1 := by omega
      rw [List.take_of_length_le (by omega), List.take_of_length_le (by omega)] at hi1
      repeat' (first | refine stPs ?_ | (refine p_cmp rfl rfl rfl rfl (fun hc => ?_) (fun hc => ?_) <;> simp only [cmpProp] at hc) | (refine r_cmp rfl rfl rfl rfl rfl (fun hc => ?_) (fun hc => ?_) <;> simp only [cmpProp] at hc) | (refine x_drawn rfl ?_; have h := h.drew) | refine x_drawn rfl ?_ | fail)
      exact x_ret' is_ref01_Same rfl ⟨.t hi1, h⟩

end
end Go.Proofs.Ytfchenbihepjaaa