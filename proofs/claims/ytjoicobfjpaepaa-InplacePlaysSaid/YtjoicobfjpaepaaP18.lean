/- Layer 18 (inplace): where a record's lock and value stand. -/
import Derived.Test.YtjoicobfjpaepaaHxS
import Derived.Test.YtjoicobfjpaepaaP12b
import Derived.Test.YtjoicobfjpaepaaP09w
namespace Go.Proofs.Ytjoicobfjpaepaa
open Go Go.HX
attribute [local irreducible] Ret XRun XOps XDr XOne Does Gives
set_option maxRecDepth 4000
set_option maxHeartbeats 1000000
theorem stC0_P18 {goal next : Prop} (k : next) (hs : Hid next → goal := by (intro k; (first | (refine gC F.record_Size ?_; refine p_call rfl rfl (record_Size_spec _ _ h) ?_) | (refine gC F.pages_Buffer_Bits ?_; refine p_call rfl rfl (pages_Buffer_Bits_spec (h.rf1)) ?_) | (refine gC F.record_ValueAt ?_; refine p_call rfl rfl (record_ValueAt_spec _ h) ?_) | (refine gS ?_; (first | refine p_do rfl (d_stwL rfl rfl rfl rfl rfl (h.pick (by repeat first | exact .here | apply Has.there)) (by first | (dsimp only [Value.cells]; done) | exact rfl)) ?_ | refine p_do rfl (d_stL rfl rfl rfl (h.pick (by repeat first | exact .here | apply Has.there)) (by first | exact of_decide_eq_true rfl | simp) (by first | (dsimp only [List.set]; done) | exact rfl)) ?_)) | fail); exact k.out)) : goal := hs ⟨k⟩
theorem stC1_P18 {goal next : Prop} (k : next) (hs : Hid next → goal := by (intro k; (first | (refine gC F.place_Fits ?_; refine p_call rfl rfl (place_Fits_spec _ _ _ ?_ ?_ h) ?_; iterate 2 (first | assumption | omega | (simp only []; omega) | decide)) | fail); exact k.out)) : goal := hs ⟨k⟩
theorem stC2_P18 {goal next : Prop} (k : next) (hs : Hid next → goal := by (intro k; (first | (refine gN ?_; refine p_do rfl (d_newL h (by first | (dsimp only [Value.cells]; done) | exact rfl)) ?_) | fail); exact k.out)) : goal := hs ⟨k⟩
def spotC (v : Value) (l a n : Int) : List Value := [v, .int .u64 l, .int .u64 a, .int .i64 n]
/-- May a record of such lengths stand there? -/
def placeP (bits a k n : Int) : Prop := 1 ≤ k ∧ 1 ≤ sizeV k n ∧ sizeV k n ≤ roomZ bits a
instance (bits a k n : Int) : Decidable (placeP bits a k n) := inferInstanceAs (Decidable (_ ∧ _ ∧ _))
theorem room_le {bits a : Int} (a0 : 0 ≤ a) : roomZ bits a ≤ 512 ∧ (1 ≤ roomZ bits a → a ≤ 281474976710655) := by
  unfold roomZ
  rcases size_cases bits with ⟨_, h⟩ | ⟨_, h⟩ | ⟨_, h⟩ | ⟨_, h⟩ | ⟨_, h⟩ | ⟨_, h⟩ <;> rw [h] <;> (repeat' split) <;> omega
theorem size_ok {k n : Int} (h : 1 ≤ sizeV k n) : (0 ≤ k ∧ k ≤ 64 ∧ 0 ≤ n ∧ n ≤ 128) ∧ sizeV k n = 3 + (k + 7) / 8 + (n + 7) / 8 ∧ sizeV k 0 = 3 + (k + 7) / 8 := by
  have hk : ¬ (lengthsV k n).2 ≠ 0 := fun hx => by
    unfold sizeV at h
    rw [if_pos hx] at h
    omega
  rw [lengths_bad] at hk
  have hk0 : ¬ (lengthsV k 0).2 ≠ 0 := by rw [lengths_bad]; omega
  refine ⟨by omega, ?_, ?_⟩
  · unfold sizeV
    rw [if_neg (by rw [lengths_bad]; omega)]
  · unfold sizeV
    rw [if_neg hk0]
    omega
section
variable {S : SP} {w : World} {G : List HProp}

theorem inplace_find_nil (a k n : Int) (h : Sat S w G) : Ret Try.prog F.inplace_find #[.pointer none, .int .u64 a, .int .i64 k, .int .i64 n] w (fun v w' => v = .tuple #[.agg (spotC (.pointer none) 0 0 0).toArray, .int .i64 2] ∧ Sat S w' G) := by
  refine ret_of is_inplace_find rfl ?_
  repeat' (first | refine stPs ?_ | (refine stC0_P18 ?_; rintro _ w ⟨rfl, h⟩) | (refine stC1_P18 ?_; rintro _ w ⟨(⟨rfl, hb⟩ | ⟨rfl, hb⟩), h⟩) | (refine stC2_P18 ?_; rintro _ w ⟨bx, rfl, h⟩) | (refine p_cmp rfl rfl rfl rfl (fun hc => ?_) (fun hc => ?_) <;> simp only [cmpProp] at hc) | fail)
  exact x_retc is_inplace_find (vs := [.agg (spotC (.pointer none) 0 0 0).toArray, .int .i64 2]) ⟨_, _, _, rfl, rfl, load_pt (h.pick (by repeat first | exact .here | apply Has.there)) (by kernel_rfl) rfl, _, _, rfl, rfl, rfl⟩ ⟨rfl, h.pm⟩

set_option maxHeartbeats 4000000 in
theorem inplace_find_spec {b c d : Nat} {x : BufM} (a k n : Int) (a0 : 0 ≤ a) (a1 : a ≤ 18446744073709551615) (h : Sat S w (pt b (.cells (bufC x c d) T.pages_Buffer (0, 0)) :: G)) :
    Ret Try.prog F.inplace_find #[.pointer (some ⟨b, 0, none⟩), .int .u64 a, .int .i64 k, .int .i64 n] w (fun v w' => v = .tuple #[.agg (if placeP x.bits a k n then spotC (.pointer (some ⟨b, 0, none⟩)) (a + 1) (a + sizeV k 0) (sizeV k n - sizeV k 0) else spotC (.pointer none) 0 0 0).toArray, .int .i64 (if placeP x.bits a k n then 0 else 1)] ∧ Sat S w' (pt b (.cells (bufC x c d) T.pages_Buffer (0, 0)) :: G)) := by
  refine ret_of is_inplace_find rfl ?_
  have hr := room_le (bits := x.bits) a0
  by_cases hp : placeP x.bits a k n
  · have hp' := hp
    obtain ⟨p1, p2, p3⟩ := hp'
    have ha := hr.2 (by omega)
    obtain ⟨s1, s2, s3⟩ := size_ok p2
    rw [if_pos hp, if_pos hp]
    repeat' (first | (refine gC F.place_Fits ?_; refine p_call rfl rfl (place_Fits_spec x.bits a (sizeV k n) a0 a1 h) ?_; rintro _ w ⟨(⟨rfl, hb⟩ | ⟨rfl, hb⟩), h⟩; rotate_left; exact absurd ⟨p2, p3⟩ hb) | refine stP ?_ | (refine stC0_P18 ?_; rintro _ w ⟨rfl, h⟩) | (refine stC1_P18 ?_; rintro _ w ⟨(⟨rfl, hb⟩ | ⟨rfl, hb⟩), h⟩) | (refine stC2_P18 ?_; rintro _ w ⟨bx, rfl, h⟩) | (refine p_cmp rfl rfl rfl rfl (fun hc => ?_) (fun hc => ?_) <;> simp only [cmpProp] at hc) | fail)
    exact x_retc is_inplace_find (vs := [.agg (spotC (.pointer (some ⟨b, 0, none⟩)) (a + 1) (a + sizeV k 0) (sizeV k n - sizeV k 0)).toArray, .int .i64 0]) ⟨_, _, _, rfl, rfl, load_pt (h.pick (by repeat first | exact .here | apply Has.there)) (by kernel_rfl) rfl, _, _, rfl, rfl, rfl⟩ ⟨rfl, h.pm1⟩
  · rw [if_neg hp, if_neg hp]
    by_cases hc1 : k < 1 ∨ sizeV k n = 0
    · repeat' (first | refine stPs ?_ | (refine stC0_P18 ?_; rintro _ w ⟨rfl, h⟩) | (refine stC1_P18 ?_; rintro _ w ⟨(⟨rfl, hb⟩ | ⟨rfl, hb⟩), h⟩) | (refine stC2_P18 ?_; rintro _ w ⟨bx, rfl, h⟩) | (refine p_cmp rfl rfl rfl rfl (fun hc => ?_) (fun hc => ?_) <;> simp only [cmpProp] at hc) | fail)
      all_goals first | (exfalso; omega) | exact x_retc is_inplace_find (vs := [.agg (spotC (.pointer none) 0 0 0).toArray, .int .i64 1]) ⟨_, _, _, rfl, rfl, load_pt (h.pick (by repeat first | exact .here | apply Has.there)) (by kernel_rfl) rfl, _, _, rfl, rfl, rfl⟩ ⟨rfl, h.pm1⟩
    · repeat' (first | (refine gC F.place_Fits ?_; refine p_call rfl rfl (place_Fits_spec x.bits a (sizeV k n) a0 a1 h) ?_; rintro _ w ⟨(⟨rfl, hb⟩ | ⟨rfl, hb⟩), h⟩; exact absurd ⟨by omega, hb⟩ hp) | refine stP ?_ | (refine stC0_P18 ?_; rintro _ w ⟨rfl, h⟩) | (refine stC1_P18 ?_; rintro _ w ⟨(⟨rfl, hb⟩ | ⟨rfl, hb⟩), h⟩) | (refine stC2_P18 ?_; rintro _ w ⟨bx, rfl, h⟩) | (refine p_cmp rfl rfl rfl rfl (fun hc => ?_) (fun hc => ?_) <;> simp only [cmpProp] at hc) | fail)
      all_goals first | (exfalso; omega) | exact x_retc is_inplace_find (vs := [.agg (spotC (.pointer none) 0 0 0).toArray, .int .i64 1]) ⟨_, _, _, rfl, rfl, load_pt (h.pick (by repeat first | exact .here | apply Has.there)) (by kernel_rfl) rfl, _, _, rfl, rfl, rfl⟩ ⟨rfl, h.pm1⟩
end
end Go.Proofs.Ytjoicobfjpaepaa
