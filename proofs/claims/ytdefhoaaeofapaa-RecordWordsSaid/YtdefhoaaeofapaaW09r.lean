/- Layer 9 (record): the statement RecordWords. -/
import Derived.Test.YtdefhoaaeofapaaP09o
namespace Go.Proofs.Ytdefhoaaeofapaa
open Go Go.HX
attribute [local irreducible] Ret XRun XOps XDr XOne Does Gives
set_option maxRecDepth 4000
set_option maxHeartbeats 1000000
theorem right_ok {r : RecM} (p0 : 0 ≤ r.p) (h : rightV r = 0) : r.p ≤ 281474976710655 ∧ 1 ≤ r.key.size ∧ r.key.size ≤ 64 ∧ r.val.size ≤ 128 := by
  unfold rightV at h
  split at h
  · cases h
  · rename_i hn
    have hb := lengths_bad (k := r.key.size) (v := r.val.size)
    have h1 : ¬ r.key = ⟨#[]⟩ := fun e => hn (.inr (.inl e))
    rw [ba_nil] at h1
    have h2 : ¬ (packV r.p r.t r.i).2 ≠ 0 := fun e => hn (.inl e)
    unfold packV at h2
    split at h2
    · simp at h2
    · omega
theorem recW_len (r : RecM) : (recW r).length = 3 + (r.key.size + 7) / 8 + (r.val.size + 7) / 8 := by
  unfold recW
  rw [List.length_append, List.length_append, wordsZ_length, wordsZ_length]
  rfl
theorem recW_bnd {r : RecM} (p0 : 0 ≤ r.p) (h : rightV r = 0) : ∀ x ∈ recW r, 0 ≤ x ∧ x ≤ 18446744073709551615 := by
  obtain ⟨p1, _, k1, v1⟩ := right_ok p0 h
  have hw : ∀ (s : ByteArray), ∀ x ∈ wordsZ s, 0 ≤ x ∧ x ≤ 18446744073709551615 := fun s => bnd_mem (fun i => by
    rw [wordsZ_get]
    have := leV_lt (byteN_lt s) (8 * i) 8
    have e : (256 : Nat) ^ 8 = 18446744073709551616 := by decide
    omega)
  intro x hx
  unfold recW at hx
  rw [List.mem_append, List.mem_append] at hx
  rcases hx with (hx | hx) | hx
  · have h0 : 0 ≤ (packV r.p r.t r.i).1 ∧ (packV r.p r.t r.i).1 ≤ 18446744073709551615 := by
      unfold packV
      rw [if_neg (by omega)]
      simp only
      split <;> split <;> omega
    have h2 : 0 ≤ (lengthsV r.key.size r.val.size).1 ∧ (lengthsV r.key.size r.val.size).1 ≤ 18446744073709551615 := by
      unfold lengthsV
      rw [if_neg (by omega), if_neg (by omega)]
      simp only
      omega
    simp only [List.mem_cons, List.not_mem_nil, or_false] at hx
    rcases hx with rfl | rfl | rfl
    · exact h0
    · decide
    · exact h2
  · exact hw _ x hx
  · exact hw _ x hx
theorem mid {A B C : List Int} {m n : Nat} (hm : A.length = m) (hn : (A ++ B).length = n) : ((A ++ B ++ C).take n).drop m = B := by
  rw [List.take_left' hn, List.drop_left' hm]
theorem recW_parts {r : RecM} (p0 : 0 ≤ r.p) (h : rightV r = 0) (z : List Int) : (recW r ++ z).getD 0 0 = (packV r.p r.t r.i).1 ∧ (recW r ++ z).getD 1 0 = 0 ∧ toldP ((recW r ++ z).getD 2 0) ∧ keyZ (recW r ++ z) = r.key.size ∧ valZ (recW r ++ z) = r.val.size ∧ keyW (recW r ++ z) = wordsZ r.key ∧ valW (recW r ++ z) = wordsZ r.val := by
  obtain ⟨p1, _, k1, v1⟩ := right_ok p0 h
  have e2 : (recW r ++ z).getD 2 0 = r.key.size + r.val.size * 65536 + 189850439385088 := by
    unfold recW lengthsV
    rw [if_neg (by omega), if_neg (by omega)]
    rfl
  have hk : keyZ (recW r ++ z) = r.key.size := by unfold keyZ; rw [e2]; omega
  have hv : valZ (recW r ++ z) = r.val.size := by unfold valZ; rw [e2]; omega
  refine ⟨rfl, rfl, by rw [e2]; unfold toldP; omega, hk, hv, ?_, ?_⟩
  · unfold keyW recW
    rw [show keyZ ([(packV r.p r.t r.i).1, 0, (lengthsV r.key.size r.val.size).1] ++ wordsZ r.key ++ wordsZ r.val ++ z) = r.key.size from hk, List.append_assoc _ _ z]
    exact mid rfl (by rw [List.length_append, wordsZ_length]; rfl)
  · unfold valW
    have hn : recN (recW r ++ z) = 3 + (r.key.size + 7) / 8 + (r.val.size + 7) / 8 := by unfold recN; rw [hk, hv]
    rw [hn, hk]
    unfold recW
    exact mid (by rw [List.length_append, wordsZ_length]; rfl) (by rw [List.length_append, List.length_append, wordsZ_length, wordsZ_length]; rfl)
theorem of_recW {r : RecM} (p0 : 0 ≤ r.p) (h : rightV r = 0) (z : List Int) : ofV (recW r ++ z) = (r, ((recW r).length : Int), 0) := by
  obtain ⟨p1, _, k1, v1⟩ := right_ok p0 h
  obtain ⟨e0, e1, ht, hk, hv, hkw, hvw⟩ := recW_parts p0 h z
  have hn : recN (recW r ++ z) = (recW r).length := by unfold recN; rw [hk, hv, recW_len]
  have hl := recW_len r
  have e0' : (packV r.p r.t r.i).1 = r.p + (if r.t = true then 281474976710656 else 0) + (if r.i = true then 562949953421312 else 0) := by unfold packV; rw [if_neg (by omega)]
  have hr : recR (recW r ++ z) = r := by
    unfold recR
    rw [e0, hkw, hvw, hk, hv, bytes_words, bytes_words, e0']
    obtain ⟨p, t, i, key, val⟩ := r
    simp only at p0 p1 ⊢
    have ep : (p + (if t = true then 281474976710656 else 0) + (if i = true then 562949953421312 else 0)) % 281474976710656 = p := by cases t <;> cases i <;> simp <;> omega
    have et : decide ((p + (if t = true then 281474976710656 else 0) + (if i = true then 562949953421312 else 0)) / 281474976710656 % 2 = 1) = t := by cases t <;> cases i <;> simp <;> omega
    have ei : decide (2 ≤ (p + (if t = true then 281474976710656 else 0) + (if i = true then 562949953421312 else 0)) / 281474976710656) = i := by cases t <;> cases i <;> simp <;> omega
    rw [ep, et, ei]
  have hp : recP (recW r ++ z) := by
    refine ⟨?_, by rw [e1]; decide, by rw [hkw, hk]; exact tail_words _, by rw [hvw, hv]; exact tail_words _, by rw [hr]; exact h⟩
    rw [e0, e0']
    cases r.t <;> cases r.i <;> simp <;> omega
  rw [ofV, if_neg (by rw [List.length_append]; omega), if_neg (by simpa using ht), if_neg (by rw [hn, List.length_append]; omega), if_pos hp, hr, hn]
theorem of_short {r : RecM} (p0 : 0 ≤ r.p) (h : rightV r = 0) {i : Nat} (hi : i < (recW r).length) : ofV ((recW r).take i) = (rec0, 0, 3) := by
  obtain ⟨e0, e1, ht, hk, hv, hkw, hvw⟩ := recW_parts p0 h []
  rw [List.append_nil] at *
  by_cases h3 : i < 3
  · rw [ofV, if_pos (by rw [List.length_take]; omega)]
  · have e2 : ((recW r).take i).getD 2 0 = (recW r).getD 2 0 := by rw [List.getD_eq_getElem?_getD, List.getD_eq_getElem?_getD, List.getElem?_take_of_lt (by omega)]
    have hn : recN ((recW r).take i) = (recW r).length := by
      have : recN ((recW r).take i) = recN (recW r) := by unfold recN keyZ valZ; rw [e2]
      rw [this]
      unfold recN
      rw [hk, hv, recW_len]
    rw [ofV, if_neg (by rw [List.length_take]; omega), if_neg (by rw [e2]; simpa using ht), if_pos (by rw [hn, List.length_take]; omega)]
section
variable {S : SP} {w : World} {G : List HProp}

set_option maxHeartbeats 8000000 in
theorem law09_RecordWords_spec {v1 : Value} (r : RecM) (z : List Int) (p0 : 0 ≤ r.p) (hz : ∀ i, 0 ≤ z.getD i 0 ∧ z.getD i 0 ≤ 18446744073709551615) (hA : Old S 1 v1 (ints .u64 z)) (h : Sat S w G) :
    Ret Try.prog F.law09_RecordWords #[.agg (recC r).toArray, v1] w (fun v w' => v = .bool true ∧ Sat S w' []) := by
  obtain ⟨a1, len, cap, rfl, _⟩ := hA _ w h
  have hlen := (hA _ w h).ilen
  refine ret_of is_law09_RecordWords rfl ?_
  repeat' (first | (refine gO ?_; refine p_skip rfl ?_) | (refine gO ?_; first | refine p_val rfl (gives_pure rfl) ?_ | (refine gB .add ?_; first | refine p_val rfl (g_add_i rfl rfl (by omega) (by omega)) ?_ | refine p_val rfl (g_add_u rfl rfl (by omega) (by omega)) ?_) | (refine gB _ ?_; first | refine p_cmp_t rfl rfl rfl rfl (by first | exact rfl | (simp only [cmpProp]; omega) | decide) ?_ | refine p_cmp_f rfl rfl rfl rfl (by first | exact rfl | (simp only [cmpProp]; omega) | decide) ?_ | (refine p_cmp rfl rfl rfl rfl (fun hc => ?_) (fun hc => ?_) <;> simp only [cmpProp] at hc)) | refine p_eqa rfl rfl rfl rfl rfl rfl (fun hc => ?_) (fun hc => ?_) | (refine gL ?_; first | refine p_val rfl (g_ld rfl (h.cell (by repeat first | exact .here | apply Has.there) (by exact rfl))) ?_ | refine p_val rfl (g_lda rfl rfl (h.at (by repeat first | exact .here | apply Has.there))) ?_)) | refine x_nil ?_ | (refine gX ?_; first | refine x_seq ?_ | refine x_ops ?_ | refine x_cond_t rfl ?_ | refine x_cond_f rfl ?_ | refine x_block ?_ | refine x_skip ?_ | refine x_exit rfl ?_) | refine x_blk ?_)
  refine p_do rfl (d_box (u := .agg (recC r).toArray) rfl h) ?_
  rintro _ w ⟨b1, rfl, h⟩
  have h : Sat S w (pt b1 (.cells #[.int .u64 r.p, .bool r.t, .bool r.i, .string r.key, .string r.val] T.api_Record (0, 0)) :: _) := h
  repeat' (first | (refine gO ?_; refine p_skip rfl ?_) | (refine gC F.law09_awake ?_; refine p_call rfl rfl (law09_awake_spec h) ?_; rintro _ w ⟨rfl, h⟩) | (refine gO ?_; first | refine p_val rfl (gives_pure rfl) ?_ | (refine gB .add ?_; first | refine p_val rfl (g_add_i rfl rfl (by omega) (by omega)) ?_ | refine p_val rfl (g_add_u rfl rfl (by omega) (by omega)) ?_) | (refine gB _ ?_; first | refine p_cmp_t rfl rfl rfl rfl (by first | exact rfl | (simp only [cmpProp]; omega) | decide) ?_ | refine p_cmp_f rfl rfl rfl rfl (by first | exact rfl | (simp only [cmpProp]; omega) | decide) ?_ | (refine p_cmp rfl rfl rfl rfl (fun hc => ?_) (fun hc => ?_) <;> simp only [cmpProp] at hc)) | refine p_eqa rfl rfl rfl rfl rfl rfl (fun hc => ?_) (fun hc => ?_) | (refine gL ?_; first | refine p_val rfl (g_ld rfl (h.cell (by repeat first | exact .here | apply Has.there) (by exact rfl))) ?_ | refine p_val rfl (g_lda rfl rfl (h.at (by repeat first | exact .here | apply Has.there))) ?_)) | refine x_nil ?_ | (refine gX ?_; first | refine x_seq ?_ | refine x_ops ?_ | refine x_cond_t rfl ?_ | refine x_cond_f rfl ?_ | refine x_block ?_ | refine x_skip ?_ | refine x_exit rfl ?_) | refine x_blk ?_)
  · exact x_ret' is_law09_RecordWords rfl ⟨rfl, h.nil⟩
  · exact x_ret' is_law09_RecordWords rfl ⟨rfl, h.nil⟩
  · exact x_ret' is_law09_RecordWords rfl ⟨rfl, h.nil⟩
  refine p_call rfl rfl (record_Right_spec r p0 (by omega) (by omega) h) ?_
  rintro _ w ⟨rfl, h⟩
  repeat' (first | (refine gO ?_; refine p_skip rfl ?_) | (refine gO ?_; first | refine p_val rfl (gives_pure rfl) ?_ | (refine gB .add ?_; first | refine p_val rfl (g_add_i rfl rfl (by omega) (by omega)) ?_ | refine p_val rfl (g_add_u rfl rfl (by omega) (by omega)) ?_) | (refine gB _ ?_; first | refine p_cmp_t rfl rfl rfl rfl (by first | exact rfl | (simp only [cmpProp]; omega) | decide) ?_ | refine p_cmp_f rfl rfl rfl rfl (by first | exact rfl | (simp only [cmpProp]; omega) | decide) ?_ | (refine p_cmp rfl rfl rfl rfl (fun hc => ?_) (fun hc => ?_) <;> simp only [cmpProp] at hc)) | refine p_eqa rfl rfl rfl rfl rfl rfl (fun hc => ?_) (fun hc => ?_) | (refine gL ?_; first | refine p_val rfl (g_ld rfl (h.cell (by repeat first | exact .here | apply Has.there) (by exact rfl))) ?_ | refine p_val rfl (g_lda rfl rfl (h.at (by repeat first | exact .here | apply Has.there))) ?_)) | refine x_nil ?_ | (refine gX ?_; first | refine x_seq ?_ | refine x_ops ?_ | refine x_cond_t rfl ?_ | refine x_cond_f rfl ?_ | refine x_block ?_ | refine x_skip ?_ | refine x_exit rfl ?_) | refine x_blk ?_)
  refine p_call rfl rfl (record_Words_spec r p0 (by omega) (by omega) h) ?_
  rintro _ w (⟨hr, rfl, h⟩ | ⟨hr, u, rfl, h⟩)
  · repeat' (first | (refine gO ?_; refine p_skip rfl ?_) | (refine gO ?_; first | refine p_val rfl (gives_pure rfl) ?_ | (refine gB .add ?_; first | refine p_val rfl (g_add_i rfl rfl (by omega) (by omega)) ?_ | refine p_val rfl (g_add_u rfl rfl (by omega) (by omega)) ?_) | (refine gB _ ?_; first | refine p_cmp_t rfl rfl rfl rfl (by first | exact rfl | (simp only [cmpProp]; omega) | decide) ?_ | refine p_cmp_f rfl rfl rfl rfl (by first | exact rfl | (simp only [cmpProp]; omega) | decide) ?_ | (refine p_cmp rfl rfl rfl rfl (fun hc => ?_) (fun hc => ?_) <;> simp only [cmpProp] at hc)) | refine p_eqa rfl rfl rfl rfl rfl rfl (fun hc => ?_) (fun hc => ?_) | (refine gL ?_; first | refine p_val rfl (g_ld rfl (h.cell (by repeat first | exact .here | apply Has.there) (by exact rfl))) ?_ | refine p_val rfl (g_lda rfl rfl (h.at (by repeat first | exact .here | apply Has.there))) ?_)) | refine x_nil ?_ | (refine gX ?_; first | refine x_seq ?_ | refine x_ops ?_ | refine x_cond_t rfl ?_ | refine x_cond_f rfl ?_ | refine x_block ?_ | refine x_skip ?_ | refine x_exit rfl ?_) | refine x_blk ?_)
    refine p_call rfl rfl (ref09_Right_spec r h) ?_
    rintro _ w ⟨rfl, h⟩
    generalize rightV r = q at *
    repeat' (first | (refine gO ?_; refine p_skip rfl ?_) | (refine gO ?_; first | refine p_val rfl (gives_pure rfl) ?_ | (refine gB .add ?_; first | refine p_val rfl (g_add_i rfl rfl (by omega) (by omega)) ?_ | refine p_val rfl (g_add_u rfl rfl (by omega) (by omega)) ?_) | (refine gB _ ?_; first | refine p_cmp_t rfl rfl rfl rfl (by first | exact rfl | (simp only [cmpProp]; omega) | decide) ?_ | refine p_cmp_f rfl rfl rfl rfl (by first | exact rfl | (simp only [cmpProp]; omega) | decide) ?_ | (refine p_cmp rfl rfl rfl rfl (fun hc => ?_) (fun hc => ?_) <;> simp only [cmpProp] at hc)) | refine p_eqa rfl rfl rfl rfl rfl rfl (fun hc => ?_) (fun hc => ?_) | (refine gL ?_; first | refine p_val rfl (g_ld rfl (h.cell (by repeat first | exact .here | apply Has.there) (by exact rfl))) ?_ | refine p_val rfl (g_lda rfl rfl (h.at (by repeat first | exact .here | apply Has.there))) ?_)) | refine x_nil ?_ | (refine gX ?_; first | refine x_seq ?_ | refine x_ops ?_ | refine x_cond_t rfl ?_ | refine x_cond_f rfl ?_ | refine x_block ?_ | refine x_skip ?_ | refine x_exit rfl ?_) | refine x_blk ?_)
    exact x_ret' is_law09_RecordWords rfl ⟨rfl, h.nil⟩
  rw [hr]
  have h := h.pick (.there .here)
  repeat' (first | (refine gO ?_; refine p_skip rfl ?_) | (refine gO ?_; first | refine p_val rfl (gives_pure rfl) ?_ | (refine gB .add ?_; first | refine p_val rfl (g_add_i rfl rfl (by omega) (by omega)) ?_ | refine p_val rfl (g_add_u rfl rfl (by omega) (by omega)) ?_) | (refine gB _ ?_; first | refine p_cmp_t rfl rfl rfl rfl (by first | exact rfl | (simp only [cmpProp]; omega) | decide) ?_ | refine p_cmp_f rfl rfl rfl rfl (by first | exact rfl | (simp only [cmpProp]; omega) | decide) ?_ | (refine p_cmp rfl rfl rfl rfl (fun hc => ?_) (fun hc => ?_) <;> simp only [cmpProp] at hc)) | refine p_eqa rfl rfl rfl rfl rfl rfl (fun hc => ?_) (fun hc => ?_) | (refine gL ?_; first | refine p_val rfl (g_ld rfl (h.cell (by repeat first | exact .here | apply Has.there) (by exact rfl))) ?_ | refine p_val rfl (g_lda rfl rfl (h.at (by repeat first | exact .here | apply Has.there))) ?_)) | refine x_nil ?_ | (refine gX ?_; first | refine x_seq ?_ | refine x_ops ?_ | refine x_cond_t rfl ?_ | refine x_cond_f rfl ?_ | refine x_block ?_ | refine x_skip ?_ | refine x_exit rfl ?_) | refine x_blk ?_)
  refine p_call rfl rfl (ref09_Right_spec r h) ?_
  rw [hr]
  rintro _ w ⟨rfl, h⟩
  have hl := recW_len r
  obtain ⟨q1, _, q2, q3⟩ := right_ok p0 hr
  obtain ⟨ua, ul, uc, rfl, hul, huc⟩ := ownS_slice h (.there .here)
  rw [ints_length, Nat.mul_one] at hul
  repeat' (first | (refine gO ?_; refine p_skip rfl ?_) | (refine gO ?_; first | refine p_val rfl (gives_pure rfl) ?_ | (refine gB .add ?_; first | refine p_val rfl (g_add_i rfl rfl (by omega) (by omega)) ?_ | refine p_val rfl (g_add_u rfl rfl (by omega) (by omega)) ?_) | (refine gB _ ?_; first | refine p_cmp_t rfl rfl rfl rfl (by first | exact rfl | (simp only [cmpProp]; omega) | decide) ?_ | refine p_cmp_f rfl rfl rfl rfl (by first | exact rfl | (simp only [cmpProp]; omega) | decide) ?_ | (refine p_cmp rfl rfl rfl rfl (fun hc => ?_) (fun hc => ?_) <;> simp only [cmpProp] at hc)) | refine p_eqa rfl rfl rfl rfl rfl rfl (fun hc => ?_) (fun hc => ?_) | (refine gL ?_; first | refine p_val rfl (g_ld rfl (h.cell (by repeat first | exact .here | apply Has.there) (by exact rfl))) ?_ | refine p_val rfl (g_lda rfl rfl (h.at (by repeat first | exact .here | apply Has.there))) ?_)) | refine x_nil ?_ | (refine gX ?_; first | refine x_seq ?_ | refine x_ops ?_ | refine x_cond_t rfl ?_ | refine x_cond_f rfl ?_ | refine x_block ?_ | refine x_skip ?_ | refine x_exit rfl ?_) | refine x_blk ?_)
  refine p_call rfl rfl (ref09_Words_spec r p0 (by omega) (by omega) h) ?_
  rintro v2 w h
  refine p_call rfl rfl (ref01_Same_spec (recW r) (recW r) (fun w h => ownS_rd h (.there (.there .here))) (fun w h => ownS_rd h .here) (by omega) h) ?_
  rintro _ w ⟨⟨rfl, _⟩ | ⟨rfl, hx⟩, h⟩
  rotate_left
  · exact absurd rfl hx
  have h := h.drop
  have hs := sizeV_of q2 q3
  repeat' (first | (refine gO ?_; refine p_skip rfl ?_) | (refine gO ?_; first | refine p_val rfl (gives_pure rfl) ?_ | (refine gB .add ?_; first | refine p_val rfl (g_add_i rfl rfl (by omega) (by omega)) ?_ | refine p_val rfl (g_add_u rfl rfl (by omega) (by omega)) ?_) | (refine gB _ ?_; first | refine p_cmp_t rfl rfl rfl rfl (by first | exact rfl | (simp only [cmpProp]; omega) | decide) ?_ | refine p_cmp_f rfl rfl rfl rfl (by first | exact rfl | (simp only [cmpProp]; omega) | decide) ?_ | (refine p_cmp rfl rfl rfl rfl (fun hc => ?_) (fun hc => ?_) <;> simp only [cmpProp] at hc)) | refine p_eqa rfl rfl rfl rfl rfl rfl (fun hc => ?_) (fun hc => ?_) | (refine gL ?_; first | refine p_val rfl (g_ld rfl (h.cell (by repeat first | exact .here | apply Has.there) (by exact rfl))) ?_ | refine p_val rfl (g_lda rfl rfl (h.at (by repeat first | exact .here | apply Has.there))) ?_)) | refine x_nil ?_ | (refine gX ?_; first | refine x_seq ?_ | refine x_ops ?_ | refine x_cond_t rfl ?_ | refine x_cond_f rfl ?_ | refine x_block ?_ | refine x_skip ?_ | refine x_exit rfl ?_) | refine x_blk ?_)
  refine p_call rfl rfl (record_Size_spec _ _ h) ?_
  rw [hs]
  rintro _ w ⟨rfl, h⟩
  repeat' (first | (refine gO ?_; refine p_skip rfl ?_) | (refine gO ?_; first | refine p_val rfl (gives_pure rfl) ?_ | (refine gB .add ?_; first | refine p_val rfl (g_add_i rfl rfl (by omega) (by omega)) ?_ | refine p_val rfl (g_add_u rfl rfl (by omega) (by omega)) ?_) | (refine gB _ ?_; first | refine p_cmp_t rfl rfl rfl rfl (by first | exact rfl | (simp only [cmpProp]; omega) | decide) ?_ | refine p_cmp_f rfl rfl rfl rfl (by first | exact rfl | (simp only [cmpProp]; omega) | decide) ?_ | (refine p_cmp rfl rfl rfl rfl (fun hc => ?_) (fun hc => ?_) <;> simp only [cmpProp] at hc)) | refine p_eqa rfl rfl rfl rfl rfl rfl (fun hc => ?_) (fun hc => ?_) | (refine gL ?_; first | refine p_val rfl (g_ld rfl (h.cell (by repeat first | exact .here | apply Has.there) (by exact rfl))) ?_ | refine p_val rfl (g_lda rfl rfl (h.at (by repeat first | exact .here | apply Has.there))) ?_)) | refine x_nil ?_ | (refine gX ?_; first | refine x_seq ?_ | refine x_ops ?_ | refine x_cond_t rfl ?_ | refine x_cond_f rfl ?_ | refine x_block ?_ | refine x_skip ?_ | refine x_exit rfl ?_) | refine x_blk ?_)
  refine p_lit [] rfl rfl rfl rfl rfl rfl h (fun v3 w h => ?_)
  have h : Sat S w (ownS T.uint64 1 v3 (ints .u64 []) :: _) := h
  repeat' (first | (refine gO ?_; refine p_skip rfl ?_) | (refine gO ?_; first | refine p_val rfl (gives_pure rfl) ?_ | (refine gB .add ?_; first | refine p_val rfl (g_add_i rfl rfl (by omega) (by omega)) ?_ | refine p_val rfl (g_add_u rfl rfl (by omega) (by omega)) ?_) | (refine gB _ ?_; first | refine p_cmp_t rfl rfl rfl rfl (by first | exact rfl | (simp only [cmpProp]; omega) | decide) ?_ | refine p_cmp_f rfl rfl rfl rfl (by first | exact rfl | (simp only [cmpProp]; omega) | decide) ?_ | (refine p_cmp rfl rfl rfl rfl (fun hc => ?_) (fun hc => ?_) <;> simp only [cmpProp] at hc)) | refine p_eqa rfl rfl rfl rfl rfl rfl (fun hc => ?_) (fun hc => ?_) | (refine gL ?_; first | refine p_val rfl (g_ld rfl (h.cell (by repeat first | exact .here | apply Has.there) (by exact rfl))) ?_ | refine p_val rfl (g_lda rfl rfl (h.at (by repeat first | exact .here | apply Has.there))) ?_)) | refine x_nil ?_ | (refine gX ?_; first | refine x_seq ?_ | refine x_ops ?_ | refine x_cond_t rfl ?_ | refine x_cond_f rfl ?_ | refine x_block ?_ | refine x_skip ?_ | refine x_exit rfl ?_) | refine x_blk ?_)
  refine p_app rfl rfl rfl rfl (by decide) h (ownS_rd h (.there (.there .here))) (ints_one _ _) (by rw [ints_length, ints_length]; simp; omega) (by rw [ints_length, ints_length]; simp; omega) (fun v4 w h => ?_)
  repeat' (first | (refine gO ?_; refine p_skip rfl ?_) | (refine gO ?_; first | refine p_val rfl (gives_pure rfl) ?_ | (refine gB .add ?_; first | refine p_val rfl (g_add_i rfl rfl (by omega) (by omega)) ?_ | refine p_val rfl (g_add_u rfl rfl (by omega) (by omega)) ?_) | (refine gB _ ?_; first | refine p_cmp_t rfl rfl rfl rfl (by first | exact rfl | (simp only [cmpProp]; omega) | decide) ?_ | refine p_cmp_f rfl rfl rfl rfl (by first | exact rfl | (simp only [cmpProp]; omega) | decide) ?_ | (refine p_cmp rfl rfl rfl rfl (fun hc => ?_) (fun hc => ?_) <;> simp only [cmpProp] at hc)) | refine p_eqa rfl rfl rfl rfl rfl rfl (fun hc => ?_) (fun hc => ?_) | (refine gL ?_; first | refine p_val rfl (g_ld rfl (h.cell (by repeat first | exact .here | apply Has.there) (by exact rfl))) ?_ | refine p_val rfl (g_lda rfl rfl (h.at (by repeat first | exact .here | apply Has.there))) ?_)) | refine x_nil ?_ | (refine gX ?_; first | refine x_seq ?_ | refine x_ops ?_ | refine x_cond_t rfl ?_ | refine x_cond_f rfl ?_ | refine x_block ?_ | refine x_skip ?_ | refine x_exit rfl ?_) | refine x_blk ?_)
  refine p_app rfl rfl rfl rfl (by decide) h (hA _ _ h) (ints_one _ _) (by rw [List.length_append, ints_length, ints_length, ints_length]; simp; omega) (by rw [List.length_append, ints_length, ints_length, ints_length]; simp; omega) (fun v5 w h => ?_)
  have e5 : ints .u64 [] ++ ints .u64 (recW r) ++ ints .u64 z = ints .u64 (recW r ++ z) := by simp [ints]
  rw [e5] at h
  have hbr := recW_bnd p0 hr
  refine p_call rfl rfl (record_Of_spec (recW r ++ z) (by rw [List.length_append]; omega) (getD_bnd (fun x hx => by rcases List.mem_append.1 hx with hx | hx; exact hbr x hx; exact bnd_mem hz x hx)) (fun w h => ownS_rd h .here) h) ?_
  rw [of_recW p0 hr]
  rintro _ w ⟨rfl, h⟩
  have h := h.drop
  repeat' (first | (refine gO ?_; refine p_skip rfl ?_) | (refine gO ?_; first | refine p_val rfl (gives_pure rfl) ?_ | (refine gB .add ?_; first | refine p_val rfl (g_add_i rfl rfl (by omega) (by omega)) ?_ | refine p_val rfl (g_add_u rfl rfl (by omega) (by omega)) ?_) | (refine gB _ ?_; first | refine p_cmp_t rfl rfl rfl rfl (by first | exact rfl | (simp only [cmpProp]; omega) | decide) ?_ | refine p_cmp_f rfl rfl rfl rfl (by first | exact rfl | (simp only [cmpProp]; omega) | decide) ?_ | (refine p_cmp rfl rfl rfl rfl (fun hc => ?_) (fun hc => ?_) <;> simp only [cmpProp] at hc)) | refine p_eqa rfl rfl rfl rfl rfl rfl (fun hc => ?_) (fun hc => ?_) | (refine gL ?_; first | refine p_val rfl (g_ld rfl (h.cell (by repeat first | exact .here | apply Has.there) (by exact rfl))) ?_ | refine p_val rfl (g_lda rfl rfl (h.at (by repeat first | exact .here | apply Has.there))) ?_)) | refine x_nil ?_ | (refine gX ?_; first | refine x_seq ?_ | refine x_ops ?_ | refine x_cond_t rfl ?_ | refine x_cond_f rfl ?_ | refine x_block ?_ | refine x_skip ?_ | refine x_exit rfl ?_) | refine x_blk ?_)
  refine p_do rfl (d_new h) ?_
  rintro _ w ⟨b2, rfl, h⟩
  refine p_do rfl (d_stn (u := .agg (recC r).toArray) rfl rfl rfl (by simp [Value.cells, Value.oneCell', recC]) h (by simp [Value.cells])) ?_
  rintro _ w ⟨rfl, h⟩
  have h : Sat S w (pt b2 (.cells #[.int .u64 r.p, .bool r.t, .bool r.i, .string r.key, .string r.val] T.api_Record (0, 0)) :: _) := h
  repeat' (first | (refine gO ?_; refine p_skip rfl ?_) | (refine gO ?_; first | refine p_val rfl (gives_pure rfl) ?_ | (refine gB .add ?_; first | refine p_val rfl (g_add_i rfl rfl (by omega) (by omega)) ?_ | refine p_val rfl (g_add_u rfl rfl (by omega) (by omega)) ?_) | (refine gB _ ?_; first | refine p_cmp_t rfl rfl rfl rfl (by first | exact rfl | (simp only [cmpProp]; omega) | decide) ?_ | refine p_cmp_f rfl rfl rfl rfl (by first | exact rfl | (simp only [cmpProp]; omega) | decide) ?_ | (refine p_cmp rfl rfl rfl rfl (fun hc => ?_) (fun hc => ?_) <;> simp only [cmpProp] at hc)) | refine p_eqa rfl rfl rfl rfl rfl rfl (fun hc => ?_) (fun hc => ?_) | (refine gL ?_; first | refine p_val rfl (g_ld rfl (h.cell (by repeat first | exact .here | apply Has.there) (by exact rfl))) ?_ | refine p_val rfl (g_lda rfl rfl (h.at (by repeat first | exact .here | apply Has.there))) ?_)) | refine x_nil ?_ | (refine gX ?_; first | refine x_seq ?_ | refine x_ops ?_ | refine x_cond_t rfl ?_ | refine x_cond_f rfl ?_ | refine x_block ?_ | refine x_skip ?_ | refine x_exit rfl ?_) | refine x_blk ?_)
  rotate_left
  · exact absurd ⟨rfl, rfl, rfl, rfl, rfl, trivial⟩ hc
  refine x_keep [6, 11] rfl ?_
  refine x_loop_inv (fun lm le w => ∃ (i : Nat), lm = ul - i ∧ i ≤ ul ∧ le = [(6, .slice ua ul uc), (11, .int .i64 i)] ∧ Sat S w (ownS T.uint64 1 (.slice ua ul uc) (ints .u64 (recW r)) :: G)) (ul) ⟨0, rfl, by omega, rfl, h.sub (.cons (by repeat first | exact .here | apply Has.there) (by repeat first | exact .refl _ | apply Sub.skip))⟩ ?_
  clear h
  rintro lm le w ⟨i, rfl, hi0, rfl, h⟩ ih
  by_cases hi : i < ul
  · repeat' (first | (refine gO ?_; refine p_skip rfl ?_) | (refine gO ?_; first | refine p_val rfl (gives_pure rfl) ?_ | (refine gB .add ?_; first | refine p_val rfl (g_add_i rfl rfl (by omega) (by omega)) ?_ | refine p_val rfl (g_add_u rfl rfl (by omega) (by omega)) ?_) | (refine gB _ ?_; first | refine p_cmp_t rfl rfl rfl rfl (by first | exact rfl | (simp only [cmpProp]; omega) | decide) ?_ | refine p_cmp_f rfl rfl rfl rfl (by first | exact rfl | (simp only [cmpProp]; omega) | decide) ?_ | (refine p_cmp rfl rfl rfl rfl (fun hc => ?_) (fun hc => ?_) <;> simp only [cmpProp] at hc)) | refine p_eqa rfl rfl rfl rfl rfl rfl (fun hc => ?_) (fun hc => ?_) | (refine gL ?_; first | refine p_val rfl (g_ld rfl (h.cell (by repeat first | exact .here | apply Has.there) (by exact rfl))) ?_ | refine p_val rfl (g_lda rfl rfl (h.at (by repeat first | exact .here | apply Has.there))) ?_)) | refine x_nil ?_ | (refine gX ?_; first | refine x_seq ?_ | refine x_ops ?_ | refine x_cond_t rfl ?_ | refine x_cond_f rfl ?_ | refine x_block ?_ | refine x_skip ?_ | refine x_exit rfl ?_) | refine x_blk ?_)
    refine p_val rfl (g_slc (l' := 0) (h' := i) rfl rfl rfl rfl rfl (by omega) (by omega)) ?_
    have hsp : ∀ w, Sat S w (ownS T.uint64 1 (.slice ua ul uc) (ints .u64 (recW r)) :: G) → RdS w 1 (.slice (if uc = 0 then ua else ua.map (·.add (0 * 1))) (i - 0) (uc - 0)) (ints .u64 ((recW r).take i)) := by
      intro w h
      have := (ownS_rd h .here).sub (l' := 0) (h' := i) (by omega) (by omega)
      rw [Nat.mul_one] at this
      unfold ints at this ⊢
      rw [← List.map_take] at this
      simpa using this
    refine p_call rfl rfl (record_Of_spec ((recW r).take i) (by rw [List.length_take]; omega) (getD_bnd (fun x hx => hbr x (List.mem_of_mem_take hx))) hsp h) ?_
    rw [of_short p0 hr (by omega)]
    rintro _ w ⟨rfl, h⟩
    repeat' (first | (refine gO ?_; refine p_skip rfl ?_) | (refine gO ?_; first | refine p_val rfl (gives_pure rfl) ?_ | (refine gB .add ?_; first | refine p_val rfl (g_add_i rfl rfl (by omega) (by omega)) ?_ | refine p_val rfl (g_add_u rfl rfl (by omega) (by omega)) ?_) | (refine gB _ ?_; first | refine p_cmp_t rfl rfl rfl rfl (by first | exact rfl | (simp only [cmpProp]; omega) | decide) ?_ | refine p_cmp_f rfl rfl rfl rfl (by first | exact rfl | (simp only [cmpProp]; omega) | decide) ?_ | (refine p_cmp rfl rfl rfl rfl (fun hc => ?_) (fun hc => ?_) <;> simp only [cmpProp] at hc)) | refine p_eqa rfl rfl rfl rfl rfl rfl (fun hc => ?_) (fun hc => ?_) | (refine gL ?_; first | refine p_val rfl (g_ld rfl (h.cell (by repeat first | exact .here | apply Has.there) (by exact rfl))) ?_ | refine p_val rfl (g_lda rfl rfl (h.at (by repeat first | exact .here | apply Has.there))) ?_)) | refine x_nil ?_ | (refine gX ?_; first | refine x_seq ?_ | refine x_ops ?_ | refine x_cond_t rfl ?_ | refine x_cond_f rfl ?_ | refine x_block ?_ | refine x_skip ?_ | refine x_exit rfl ?_) | refine x_blk ?_)
    refine p_do rfl (d_new h) ?_
    rintro _ w ⟨b3, rfl, h⟩
    refine p_do rfl (d_stn (u := .agg (recC rec0).toArray) rfl rfl rfl (by simp [Value.cells, Value.oneCell', recC]) h (by simp [Value.cells])) ?_
    rintro _ w ⟨rfl, h⟩
    repeat' (first | (refine gO ?_; refine p_skip rfl ?_) | (refine gO ?_; first | refine p_val rfl (gives_pure rfl) ?_ | (refine gB .add ?_; first | refine p_val rfl (g_add_i rfl rfl (by omega) (by omega)) ?_ | refine p_val rfl (g_add_u rfl rfl (by omega) (by omega)) ?_) | (refine gB _ ?_; first | refine p_cmp_t rfl rfl rfl rfl (by first | exact rfl | (simp only [cmpProp]; omega) | decide) ?_ | refine p_cmp_f rfl rfl rfl rfl (by first | exact rfl | (simp only [cmpProp]; omega) | decide) ?_ | (refine p_cmp rfl rfl rfl rfl (fun hc => ?_) (fun hc => ?_) <;> simp only [cmpProp] at hc)) | refine p_eqa rfl rfl rfl rfl rfl rfl (fun hc => ?_) (fun hc => ?_) | (refine gL ?_; first | refine p_val rfl (g_ld rfl (h.cell (by repeat first | exact .here | apply Has.there) (by exact rfl))) ?_ | refine p_val rfl (g_lda rfl rfl (h.at (by repeat first | exact .here | apply Has.there))) ?_)) | refine x_nil ?_ | (refine gX ?_; first | refine x_seq ?_ | refine x_ops ?_ | refine x_cond_t rfl ?_ | refine x_cond_f rfl ?_ | refine x_block ?_ | refine x_skip ?_ | refine x_exit rfl ?_) | refine x_blk ?_)
    exact x_keep [6, 11] rfl (ih _ _ _ (by omega) ⟨i + 1, rfl, by omega, rfl, h.sub (.cons (by repeat first | exact .here | apply Has.there) (by repeat first | exact .refl _ | apply Sub.skip))⟩)
  · repeat' (first | (refine gO ?_; refine p_skip rfl ?_) | (refine gO ?_; first | refine p_val rfl (gives_pure rfl) ?_ | (refine gB .add ?_; first | refine p_val rfl (g_add_i rfl rfl (by omega) (by omega)) ?_ | refine p_val rfl (g_add_u rfl rfl (by omega) (by omega)) ?_) | (refine gB _ ?_; first | refine p_cmp_t rfl rfl rfl rfl (by first | exact rfl | (simp only [cmpProp]; omega) | decide) ?_ | refine p_cmp_f rfl rfl rfl rfl (by first | exact rfl | (simp only [cmpProp]; omega) | decide) ?_ | (refine p_cmp rfl rfl rfl rfl (fun hc => ?_) (fun hc => ?_) <;> simp only [cmpProp] at hc)) | refine p_eqa rfl rfl rfl rfl rfl rfl (fun hc => ?_) (fun hc => ?_) | (refine gL ?_; first | refine p_val rfl (g_ld rfl (h.cell (by repeat first | exact .here | apply Has.there) (by exact rfl))) ?_ | refine p_val rfl (g_lda rfl rfl (h.at (by repeat first | exact .here | apply Has.there))) ?_)) | refine x_nil ?_ | (refine gX ?_; first | refine x_seq ?_ | refine x_ops ?_ | refine x_cond_t rfl ?_ | refine x_cond_f rfl ?_ | refine x_block ?_ | refine x_skip ?_ | refine x_exit rfl ?_) | refine x_blk ?_)
    exact x_ret' is_law09_RecordWords rfl ⟨rfl, h.nil⟩
theorem RecordWords_law (cs0 : Array Value) (a1 : Option Addr) (len1 cap1 : Nat) (z1 : List Int) (W : World) (w0 : Arg W (.st (.pair (.st (.pair (.int .u64) (.pair .bool (.pair .bool .unit)))) (.pair .str (.pair .str .unit)))) cs0.toList) (w1 : ArgInts .u64 W a1 len1 cap1 z1) :
    Ret Try.prog F.law09_RecordWords #[.agg cs0, .slice a1 len1 cap1] W (fun v w' => v = .bool true ∧ Sat ⟨W.heap.size, W⟩ w' []) := by
  obtain ⟨_, _, he, ⟨_, _, rfl, ⟨p, rfl, hp⟩, _, _, rfl, ⟨t, rfl⟩, _, _, rfl, ⟨i, rfl⟩, h1⟩, _, _, rfl, ⟨key, rfl, _⟩, _, _, rfl, ⟨val, rfl, _⟩, h2⟩ := w0
  obtain rfl : _ = [] := h1
  obtain rfl : _ = [] := h2
  obtain rfl : cs0 = (recC ⟨p, t, i, key, val⟩).toArray := by cases cs0; simpa [recC] using he
  exact law09_RecordWords_spec ⟨p, t, i, key, val⟩ (z1.take len1) (wf_u64 hp).1 (fun i => wf_u64 (wf_getD w1.wf (by decide) i)) (fun G w h => w1.rd h) (Sat.begin W)
end
end Go.Proofs.Ytdefhoaaeofapaa
