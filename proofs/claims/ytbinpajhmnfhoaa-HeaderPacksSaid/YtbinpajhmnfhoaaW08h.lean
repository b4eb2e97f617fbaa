/- The law HeaderPacks of layer 8. -/
import Derived.Test.YtbinpajhmnfhoaaP08h
import Derived.Test.YtbinpajhmnfhoaaW08
namespace Go.Proofs.Ytbinpajhmnfhoaa
open Go Go.HX
attribute [local irreducible] Ret XRun XOps XDr XOne Does Gives
set_option maxRecDepth 4000
set_option maxHeartbeats 1000000
theorem boolIs_eq {a b : Bool} {p : Prop} (h1 : BoolIs (.bool a) p) (h2 : BoolIs (.bool b) p) : a = b := by
  rcases h1 with ⟨h1, hp⟩ | ⟨h1, hp⟩ <;> rcases h2 with ⟨h2, hq⟩ | ⟨h2, hq⟩ <;> simp at h1 h2 <;> subst h1 <;> subst h2
  · rfl
  · exact absurd hp hq
  · exact absurd hq hp
  · rfl
section
variable {S : SP} {w : World} {G : List HProp}

set_option maxHeartbeats 3000000 in
theorem law08_HeaderPacks_spec (p : Int) (t i : Bool) (x : Int) (p0 : 0 ≤ p) (p1 : p ≤ 18446744073709551615) (x0 : 0 ≤ x) (x1 : x ≤ 18446744073709551615) (h : Sat S w G) :
    Ret Try.prog F.law08_HeaderPacks #[.agg #[.int .u64 p, .bool t, .bool i], .int .u64 x] w (fun v w' => v = .bool true ∧ Sat S w' []) := by
  refine ret_of is_law08_HeaderPacks rfl ?_
  repeat' (first | (refine gO ?_; refine p_skip rfl ?_) | (refine p_do rfl (d_box rfl h) ?_; rintro _ w ⟨b3, rfl, h⟩) | (refine gC F.law08_awake ?_; refine p_call rfl rfl (law08_awake_spec h) ?_; rintro _ w ⟨rfl, h⟩) | (refine gO ?_; first | refine p_val rfl (gives_pure rfl) ?_ | (refine gB _ ?_; first | refine p_cmp_t rfl rfl rfl rfl (by first | exact rfl | (simp only [cmpProp]; omega) | decide) ?_ | refine p_cmp_f rfl rfl rfl rfl (by first | exact rfl | (simp only [cmpProp]; omega) | decide) ?_ | (refine p_cmp rfl rfl rfl rfl (fun hc => ?_) (fun hc => ?_) <;> simp only [cmpProp] at hc)) | refine p_eqa rfl rfl rfl rfl rfl rfl (fun hc => ?_) (fun hc => ?_) | (refine gL ?_; first | refine p_val rfl (g_ld rfl (h.cell (by repeat first | exact .here | apply Has.there) (by exact rfl))) ?_ | refine p_val rfl (g_lda rfl rfl (h.at (by repeat first | exact .here | apply Has.there))) ?_)) | refine x_nil ?_ | (refine gX ?_; first | refine x_seq ?_ | refine x_ops ?_ | refine x_cond_t rfl ?_ | refine x_cond_f rfl ?_ | refine x_skip ?_))
  refine p_call rfl rfl (header_Pack_spec p t i p0 h) ?_
  rintro _ w ⟨rfl, h⟩
  repeat' (first | (refine gO ?_; refine p_skip rfl ?_) | (refine gO ?_; first | refine p_val rfl (gives_pure rfl) ?_ | (refine gB _ ?_; first | refine p_cmp_t rfl rfl rfl rfl (by first | exact rfl | (simp only [cmpProp]; omega) | decide) ?_ | refine p_cmp_f rfl rfl rfl rfl (by first | exact rfl | (simp only [cmpProp]; omega) | decide) ?_ | (refine p_cmp rfl rfl rfl rfl (fun hc => ?_) (fun hc => ?_) <;> simp only [cmpProp] at hc)) | refine p_eqa rfl rfl rfl rfl rfl rfl (fun hc => ?_) (fun hc => ?_) | (refine gL ?_; first | refine p_val rfl (g_ld rfl (h.cell (by repeat first | exact .here | apply Has.there) (by exact rfl))) ?_ | refine p_val rfl (g_lda rfl rfl (h.at (by repeat first | exact .here | apply Has.there))) ?_)) | refine x_nil ?_ | (refine gX ?_; first | refine x_seq ?_ | refine x_ops ?_ | refine x_cond_t rfl ?_ | refine x_cond_f rfl ?_ | refine x_skip ?_))
  refine p_call rfl rfl (ref08_Pack_spec p t i p0 h) ?_
  rintro _ w ⟨rfl, h⟩
  repeat' (first | (refine gO ?_; refine p_skip rfl ?_) | (refine gO ?_; first | refine p_val rfl (gives_pure rfl) ?_ | (refine gB _ ?_; first | refine p_cmp_t rfl rfl rfl rfl (by first | exact rfl | (simp only [cmpProp]; omega) | decide) ?_ | refine p_cmp_f rfl rfl rfl rfl (by first | exact rfl | (simp only [cmpProp]; omega) | decide) ?_ | (refine p_cmp rfl rfl rfl rfl (fun hc => ?_) (fun hc => ?_) <;> simp only [cmpProp] at hc)) | refine p_eqa rfl rfl rfl rfl rfl rfl (fun hc => ?_) (fun hc => ?_) | (refine gL ?_; first | refine p_val rfl (g_ld rfl (h.cell (by repeat first | exact .here | apply Has.there) (by exact rfl))) ?_ | refine p_val rfl (g_lda rfl rfl (h.at (by repeat first | exact .here | apply Has.there))) ?_)) | refine x_nil ?_ | (refine gX ?_; first | refine x_seq ?_ | refine x_ops ?_ | refine x_skip ?_))
  refine x_cond_f rfl ?_
  refine x_skip ?_
  refine x_seq ?_
  refine x_cut (fun le w => le = [(1, .int .u64 x)] ∧ Sat S w ([])) (fun kj jn => ?_) ?_
  rotate_left
  · clear h
    rintro le w ⟨rfl, h⟩
    repeat' (first | (refine gO ?_; refine p_skip rfl ?_) | (refine gO ?_; first | refine p_val rfl (gives_pure rfl) ?_ | (refine gB _ ?_; first | refine p_cmp_t rfl rfl rfl rfl (by first | exact rfl | (simp only [cmpProp]; omega) | decide) ?_ | refine p_cmp_f rfl rfl rfl rfl (by first | exact rfl | (simp only [cmpProp]; omega) | decide) ?_ | (refine p_cmp rfl rfl rfl rfl (fun hc => ?_) (fun hc => ?_) <;> simp only [cmpProp] at hc)) | refine p_eqa rfl rfl rfl rfl rfl rfl (fun hc => ?_) (fun hc => ?_) | (refine gL ?_; first | refine p_val rfl (g_ld rfl (h.cell (by repeat first | exact .here | apply Has.there) (by exact rfl))) ?_ | refine p_val rfl (g_lda rfl rfl (h.at (by repeat first | exact .here | apply Has.there))) ?_)) | refine x_nil ?_ | (refine gX ?_; first | refine x_seq ?_ | refine x_ops ?_ | refine x_cond_t rfl ?_ | refine x_cond_f rfl ?_ | refine x_skip ?_))
    refine p_call rfl rfl (header_Unpack_spec x x0 x1 h) ?_
    rintro _ w ⟨⟨hx, rfl⟩ | ⟨hx, a, b, ha, hb, rfl⟩, h⟩
    · repeat' (first | (refine gO ?_; refine p_skip rfl ?_) | (refine p_do rfl (d_new h) ?_; rintro _ w ⟨b9, rfl, h⟩) | (refine p_do rfl (d_stn rfl rfl rfl (by decide) h (by decide)) ?_; rintro _ w ⟨rfl, h⟩) | (refine gO ?_; first | refine p_val rfl (gives_pure rfl) ?_ | (refine gB _ ?_; first | refine p_cmp_t rfl rfl rfl rfl (by first | exact rfl | (simp only [cmpProp]; omega) | decide) ?_ | refine p_cmp_f rfl rfl rfl rfl (by first | exact rfl | (simp only [cmpProp]; omega) | decide) ?_ | (refine p_cmp rfl rfl rfl rfl (fun hc => ?_) (fun hc => ?_) <;> simp only [cmpProp] at hc)) | refine p_eqa rfl rfl rfl rfl rfl rfl (fun hc => ?_) (fun hc => ?_) | (refine gL ?_; first | refine p_val rfl (g_ld rfl (h.cell (by repeat first | exact .here | apply Has.there) (by exact rfl))) ?_ | refine p_val rfl (g_lda rfl rfl (h.at (by repeat first | exact .here | apply Has.there))) ?_)) | refine x_nil ?_ | (refine gX ?_; first | refine x_seq ?_ | refine x_ops ?_ | refine x_cond_t rfl ?_ | refine x_cond_f rfl ?_ | refine x_skip ?_))
      refine p_call rfl rfl (ref08_Unpack_spec x x0 x1 h) ?_
      rintro _ w ⟨⟨_, rfl⟩ | ⟨hy, _⟩, h⟩
      · repeat' (first | (refine gO ?_; refine p_skip rfl ?_) | (refine p_do rfl (d_new h) ?_; rintro _ w ⟨b9, rfl, h⟩) | (refine p_do rfl (d_stn rfl rfl rfl (by decide) h (by decide)) ?_; rintro _ w ⟨rfl, h⟩) | (refine gO ?_; first | refine p_val rfl (gives_pure rfl) ?_ | (refine gB _ ?_; first | refine p_cmp_t rfl rfl rfl rfl (by first | exact rfl | (simp only [cmpProp]; omega) | decide) ?_ | refine p_cmp_f rfl rfl rfl rfl (by first | exact rfl | (simp only [cmpProp]; omega) | decide) ?_ | (refine p_cmp rfl rfl rfl rfl (fun hc => ?_) (fun hc => ?_) <;> simp only [cmpProp] at hc)) | refine p_eqa rfl rfl rfl rfl rfl rfl (fun hc => ?_) (fun hc => ?_) | (refine gL ?_; first | refine p_val rfl (g_ld rfl (h.cell (by repeat first | exact .here | apply Has.there) (by exact rfl))) ?_ | refine p_val rfl (g_lda rfl rfl (h.at (by repeat first | exact .here | apply Has.there))) ?_)) | refine x_nil ?_ | (refine gX ?_; first | refine x_seq ?_ | refine x_ops ?_ | refine x_cond_t rfl ?_ | refine x_cond_f rfl ?_ | refine x_skip ?_))
        · exact x_ret' is_law08_HeaderPacks rfl ⟨rfl, h.nil⟩
        · exact absurd ⟨rfl, rfl, rfl, trivial⟩ hc
      · omega
    · obtain ⟨ba, rfl⟩ := ha.bool
      obtain ⟨bb, rfl⟩ := hb.bool
      repeat' (first | (refine gO ?_; refine p_skip rfl ?_) | (refine p_do rfl (d_new h) ?_; rintro _ w ⟨b9, rfl, h⟩) | (refine p_do rfl (d_stn rfl rfl rfl (by simp [Value.cells, Value.oneCell']) h (by decide)) ?_; rintro _ w ⟨rfl, h⟩) | (refine gO ?_; first | refine p_val rfl (gives_pure rfl) ?_ | (refine gB _ ?_; first | refine p_cmp_t rfl rfl rfl rfl (by first | exact rfl | (simp only [cmpProp]; omega) | decide) ?_ | refine p_cmp_f rfl rfl rfl rfl (by first | exact rfl | (simp only [cmpProp]; omega) | decide) ?_ | (refine p_cmp rfl rfl rfl rfl (fun hc => ?_) (fun hc => ?_) <;> simp only [cmpProp] at hc)) | refine p_eqa rfl rfl rfl rfl rfl rfl (fun hc => ?_) (fun hc => ?_) | (refine gL ?_; first | refine p_val rfl (g_ld rfl (h.cell (by repeat first | exact .here | apply Has.there) (by exact rfl))) ?_ | refine p_val rfl (g_lda rfl rfl (h.at (by repeat first | exact .here | apply Has.there))) ?_)) | refine x_nil ?_ | (refine gX ?_; first | refine x_seq ?_ | refine x_ops ?_ | refine x_cond_t rfl ?_ | refine x_cond_f rfl ?_ | refine x_skip ?_))
      refine p_call rfl rfl (ref08_Unpack_spec x x0 x1 h) ?_
      rintro _ w ⟨⟨hy, _⟩ | ⟨_, a2, b2, ha2, hb2, rfl⟩, h⟩
      · omega
      · obtain ⟨ba2, rfl⟩ := ha2.bool
        obtain ⟨bb2, rfl⟩ := hb2.bool
        obtain rfl := boolIs_eq ha ha2
        obtain rfl := boolIs_eq hb hb2
        repeat' (first | (refine gO ?_; refine p_skip rfl ?_) | (refine p_do rfl (d_new h) ?_; rintro _ w ⟨b9, rfl, h⟩) | (refine p_do rfl (d_stn rfl rfl rfl (by simp [Value.cells, Value.oneCell']) h (by decide)) ?_; rintro _ w ⟨rfl, h⟩) | (refine gO ?_; first | refine p_val rfl (gives_pure rfl) ?_ | (refine gB _ ?_; first | refine p_cmp_t rfl rfl rfl rfl (by first | exact rfl | (simp only [cmpProp]; omega) | decide) ?_ | refine p_cmp_f rfl rfl rfl rfl (by first | exact rfl | (simp only [cmpProp]; omega) | decide) ?_ | (refine p_cmp rfl rfl rfl rfl (fun hc => ?_) (fun hc => ?_) <;> simp only [cmpProp] at hc)) | refine p_eqa rfl rfl rfl rfl rfl rfl (fun hc => ?_) (fun hc => ?_) | (refine gL ?_; first | refine p_val rfl (g_ld rfl (h.cell (by repeat first | exact .here | apply Has.there) (by exact rfl))) ?_ | refine p_val rfl (g_lda rfl rfl (h.at (by repeat first | exact .here | apply Has.there))) ?_)) | refine x_nil ?_ | (refine gX ?_; first | refine x_seq ?_ | refine x_ops ?_ | refine x_cond_t rfl ?_ | refine x_cond_f rfl ?_ | refine x_skip ?_))
        · exact x_ret' is_law08_HeaderPacks rfl ⟨rfl, h.nil⟩
        · exact absurd ⟨rfl, rfl, rfl, trivial⟩ hc
  by_cases hp : 281474976710655 < p
  · rw [packV, if_pos hp]
    repeat' (first | (refine gO ?_; refine p_skip rfl ?_) | (refine gO ?_; first | refine p_val rfl (gives_pure rfl) ?_ | (refine gB _ ?_; first | refine p_cmp_t rfl rfl rfl rfl (by first | exact rfl | (simp only [cmpProp]; omega) | decide) ?_ | refine p_cmp_f rfl rfl rfl rfl (by first | exact rfl | (simp only [cmpProp]; omega) | decide) ?_ | (refine p_cmp rfl rfl rfl rfl (fun hc => ?_) (fun hc => ?_) <;> simp only [cmpProp] at hc)) | refine p_eqa rfl rfl rfl rfl rfl rfl (fun hc => ?_) (fun hc => ?_) | (refine gL ?_; first | refine p_val rfl (g_ld rfl (h.cell (by repeat first | exact .here | apply Has.there) (by exact rfl))) ?_ | refine p_val rfl (g_lda rfl rfl (h.at (by repeat first | exact .here | apply Has.there))) ?_)) | refine x_nil ?_ | (refine gX ?_; first | refine x_seq ?_ | refine x_ops ?_ | refine x_cond_t rfl ?_ | refine x_cond_f rfl ?_ | refine x_skip ?_))
    exact x_keep [1] rfl (jn _ _ ⟨rfl, h.nil⟩)
  · have hv : (packV p t i).2 = 0 := by rw [packV, if_neg hp]
    have hw : (packV p t i).1 = p + (if t = true then 281474976710656 else 0) + (if i = true then 562949953421312 else 0) := by rw [packV, if_neg hp]
    have hw2 : 0 ≤ (packV p t i).1 ∧ (packV p t i).1 < 1125899906842624 ∧ (packV p t i).1 % 281474976710656 = p ∧ ((packV p t i).1 / 281474976710656 % 2 = 1 ↔ t = true) ∧ (2 ≤ (packV p t i).1 / 281474976710656 ↔ i = true) := by
      rw [hw]; cases t <;> cases i <;> simp <;> omega
    generalize (packV p t i).1 = q at *
    rw [hv]
    repeat' (first | (refine gO ?_; refine p_skip rfl ?_) | (refine gO ?_; first | refine p_val rfl (gives_pure rfl) ?_ | (refine gB _ ?_; first | refine p_cmp_t rfl rfl rfl rfl (by first | exact rfl | (simp only [cmpProp]; omega) | decide) ?_ | refine p_cmp_f rfl rfl rfl rfl (by first | exact rfl | (simp only [cmpProp]; omega) | decide) ?_ | (refine p_cmp rfl rfl rfl rfl (fun hc => ?_) (fun hc => ?_) <;> simp only [cmpProp] at hc)) | refine p_eqa rfl rfl rfl rfl rfl rfl (fun hc => ?_) (fun hc => ?_) | (refine gL ?_; first | refine p_val rfl (g_ld rfl (h.cell (by repeat first | exact .here | apply Has.there) (by exact rfl))) ?_ | refine p_val rfl (g_lda rfl rfl (h.at (by repeat first | exact .here | apply Has.there))) ?_)) | refine x_nil ?_ | (refine gX ?_; first | refine x_seq ?_ | refine x_ops ?_ | refine x_cond_t rfl ?_ | refine x_cond_f rfl ?_ | refine x_skip ?_))
    refine p_call rfl rfl (header_Unpack_spec q (by omega) (by omega) h) ?_
    rintro _ w ⟨⟨hx, _⟩ | ⟨_, a, b, ha, hb, rfl⟩, h⟩
    · omega
    · obtain rfl : a = .bool t := by
        cases t
        · exact ha.eq_f (fun hx => by simpa using hw2.2.2.2.1.1 hx)
        · exact ha.eq_t (hw2.2.2.2.1.2 rfl)
      obtain rfl : b = .bool i := by
        cases i
        · exact hb.eq_f (fun hx => by simpa using hw2.2.2.2.2.1 hx)
        · exact hb.eq_t (hw2.2.2.2.2.2 rfl)
      rw [hw2.2.2.1]
      repeat' (first | (refine gO ?_; refine p_skip rfl ?_) | (refine p_do rfl (d_new h) ?_; rintro _ w ⟨b9, rfl, h⟩) | (refine p_do rfl (d_stn rfl rfl rfl (by simp [Value.cells, Value.oneCell']) h (by decide)) ?_; rintro _ w ⟨rfl, h⟩) | (refine gO ?_; first | refine p_val rfl (gives_pure rfl) ?_ | (refine gB _ ?_; first | refine p_cmp_t rfl rfl rfl rfl (by first | exact rfl | (simp only [cmpProp]; omega) | decide) ?_ | refine p_cmp_f rfl rfl rfl rfl (by first | exact rfl | (simp only [cmpProp]; omega) | decide) ?_ | (refine p_cmp rfl rfl rfl rfl (fun hc => ?_) (fun hc => ?_) <;> simp only [cmpProp] at hc)) | refine p_eqa rfl rfl rfl rfl rfl rfl (fun hc => ?_) (fun hc => ?_) | (refine gL ?_; first | refine p_val rfl (g_ld rfl (h.cell (by repeat first | exact .here | apply Has.there) (by exact rfl))) ?_ | refine p_val rfl (g_lda rfl rfl (h.at (by repeat first | exact .here | apply Has.there))) ?_)) | refine x_nil ?_ | (refine gX ?_; first | refine x_seq ?_ | refine x_ops ?_ | refine x_cond_t rfl ?_ | refine x_cond_f rfl ?_ | refine x_skip ?_))
      · exact x_keep [1] rfl (jn _ _ ⟨rfl, h.nil⟩)
      · exact absurd ⟨rfl, rfl, rfl, trivial⟩ hc
end
theorem HeaderPacks_law (cs0 : Array Value) (a1 : Int) (W : World) (w0 : Arg W (.st (.pair (.int .u64) (.pair .bool (.pair .bool .unit)))) cs0.toList) (w1 : (Lit.int .u64 a1).wf = true) :
    Ret Try.prog F.law08_HeaderPacks #[.agg cs0, .int .u64 a1] W (fun v w' => v = .bool true ∧ Sat ⟨W.heap.size, W⟩ w' []) := by
  obtain ⟨_, _, he, ⟨p, rfl, hp⟩, _, _, rfl, ⟨t, rfl⟩, _, _, rfl, ⟨i, rfl⟩, h⟩ := w0
  obtain rfl : _ = [] := h
  obtain rfl : cs0 = #[.int .u64 p, .bool t, .bool i] := by cases cs0; simpa using he
  exact law08_HeaderPacks_spec p t i a1 (wf_u64 hp).1 (wf_u64 hp).2 (wf_u64 w1).1 (wf_u64 w1).2 (Sat.begin W)
end Go.Proofs.Ytbinpajhmnfhoaa
