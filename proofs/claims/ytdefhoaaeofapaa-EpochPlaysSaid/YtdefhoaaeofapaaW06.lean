/- The laws of layer 6: each answers true. -/
import Derived.Test.YtdefhoaaeofapaaP06
namespace Go.Proofs.Ytdefhoaaeofapaa
open Go Go.HX
attribute [local irreducible] Ret XRun XOps XDr XOne Does Gives
set_option maxRecDepth 4000
set_option maxHeartbeats 1000000
/-- A call that is played. -/
structure Act6 where
  kind : Int
  s : Int
def act6C (x : Act6) : List Value := [.int .i64 x.kind, .int .i64 x.s]
theorem act6C_len (x : Act6) : (act6C x).length = 2 := rfl
def bool6C (b : Bool) : List Value := [.bool b]
theorem bool6C_len (a : Bool) : (bool6C a).length = 1 := rfl
theorem turn_seen (t : TabM) (s : Int) (inn : Bool) (sees other q : Int) : seenT (turnT t s inn sees other).2 q = if isSess t s ∧ inn = decide (0 < seenT t s) ∧ q = s then sees else seenT t q := by
  unfold turnT
  by_cases hs : isSess t s
  · rw [if_neg (by simpa using hs)]
    by_cases hi : inn = decide (0 < seenT t s)
    · rw [if_neg (by simpa using hi)]
      have hs' := hs
      unfold isSess at hs'
      have e : isSess ⟨t.now, t.seen.set s.toNat sees⟩ q ↔ isSess t q := by unfold isSess; simp
      by_cases hq : q = s
      · subst hq
        rw [if_pos ⟨hs, hi, rfl⟩, seenT, if_pos (e.2 hs)]
        show (t.seen.set q.toNat sees).getD q.toNat 0 = sees
        rw [set_getD6 (by omega), if_pos rfl]
      · rw [if_neg (fun h => hq h.2.2)]
        by_cases hsq : isSess t q
        · rw [seenT, if_pos (e.2 hsq), seenT, if_pos hsq]
          show (t.seen.set s.toNat sees).getD q.toNat 0 = _
          unfold isSess at hsq
          rw [set_getD6 (by omega), if_neg (by omega)]
        · rw [seenT, if_neg (fun h => hsq (e.1 h)), seenT, if_neg hsq]
    · rw [if_pos hi, if_neg (fun h => hi h.2.1)]
  · rw [if_pos hs, if_neg (fun h => hs h.1)]
theorem does_seen (t : TabM) (k s q : Int) : seenT (doesT t k s).2 q = seenT t q ∨ seenT (doesT t k s).2 q = t.now ∨ seenT (doesT t k s).2 q = 0 := by
  unfold doesT
  split
  · rw [turn_seen]; split
    · exact .inr (.inl rfl)
    · exact .inl rfl
  · split
    · rw [turn_seen]; split
      · exact .inr (.inl rfl)
      · exact .inl rfl
    · split
      · rw [turn_seen]; split
        · exact .inr (.inr rfl)
        · exact .inl rfl
      · split
        · exact .inl rfl
        · exact .inl rfl
theorem safe_rises {t : TabM} (h : tabOk t) (hn : t.now < 1000000) (k s : Int) : safeT t ≤ safeT (doesT t k s).2 := by
  obtain ⟨h1, h2, _⟩ := least_facts t
  have hd := (does_ok h hn k s).2.1
  obtain ⟨_, _, h3⟩ := least_facts (doesT t k s).2
  unfold safeT
  rcases h3 with h3 | ⟨q, hq, h3⟩
  · omega
  · have hp := (inT_mem.1 hq).2
    rcases does_seen t k s q with hs | hs | hs
    · have : q ∈ inT t := by
        rw [inT_mem]
        refine ⟨?_, by omega⟩
        rcases Classical.em (isSess t q) with hi | hi
        · exact hi
        · rw [hs, seenT, if_neg hi] at hp; omega
      have := h2 q this
      omega
    · omega
    · omega
theorem inF_sorted : ∀ (xs : List Int) (i : Nat), (inF i xs).Pairwise (· < ·)
  | [], i => by simp [inF]
  | x :: xs, i => by
    have ih := inF_sorted xs (i + 1)
    simp only [inF]
    split
    · rw [List.pairwise_cons]
      refine ⟨fun s hs => ?_, ih⟩
      obtain ⟨j, rfl, _⟩ := (inF_mem xs (i + 1) s).1 hs
      omega
    · exact ih
section
variable {S : SP} {w : World} {G : List HProp}

theorem law06_EpochNil_spec (s : Int) (h : Sat S w G) : Ret Try.prog F.law06_EpochNil #[.int .i64 s] w (fun v w' => v = .bool true ∧ Sat S w' []) := by
  refine ret_of is_law06_EpochNil rfl ?_
  repeat' (first | (refine gO ?_; refine p_skip rfl ?_) | (refine gC F.law06_awake ?_; refine p_call rfl rfl (law06_awake_spec h) ?_; rintro _ w ⟨rfl, h⟩) | (refine gC F.epoch_Table_Bump ?_; refine p_call rfl rfl (epoch_Table_Bump_nil h) ?_; rintro _ w ⟨rfl, h⟩) | (refine gC F.epoch_Table_Now ?_; refine p_call rfl rfl (epoch_Table_Now_nil h) ?_; rintro _ w ⟨rfl, h⟩) | (refine gC F.epoch_Table_Enter ?_; refine p_call rfl rfl (epoch_Table_Enter_nil _ h) ?_; rintro _ w ⟨rfl, h⟩) | (refine gC F.epoch_Table_Refresh ?_; refine p_call rfl rfl (epoch_Table_Refresh_nil _ h) ?_; rintro _ w ⟨rfl, h⟩) | (refine gC F.epoch_Table_Leave ?_; refine p_call rfl rfl (epoch_Table_Leave_nil _ h) ?_; rintro _ w ⟨rfl, h⟩) | (refine gC F.epoch_Table_Seen ?_; refine p_call rfl rfl (epoch_Table_Seen_nil _ h) ?_; rintro _ w ⟨rfl, h⟩) | (refine gC F.epoch_Table_In ?_; refine p_call rfl rfl (epoch_Table_In_nil h) ?_; rintro _ w ⟨rfl, h⟩) | (refine gC F.epoch_Table_Safe ?_; refine p_call rfl rfl (epoch_Table_Safe_nil h) ?_; rintro _ w ⟨rfl, h⟩) | (refine gO ?_; first | refine p_val rfl (gives_pure rfl) ?_ | (refine gB _ ?_; first | refine p_cmp_t rfl rfl rfl rfl (by first | exact rfl | (simp only [cmpProp]; omega) | decide) ?_ | refine p_cmp_f rfl rfl rfl rfl (by first | exact rfl | (simp only [cmpProp]; omega) | decide) ?_ | (refine p_cmp rfl rfl rfl rfl (fun hc => ?_) (fun hc => ?_) <;> simp only [cmpProp] at hc))) | refine x_nil ?_ | (refine gX ?_; first | refine x_seq ?_ | refine x_ops ?_ | refine x_cond_t rfl ?_ | refine x_cond_f rfl ?_ | refine x_skip ?_))
  exact x_ret' is_law06_EpochNil rfl ⟨rfl, h.nil⟩

set_option maxHeartbeats 3000000 in
theorem law06_EpochRises_spec {v1 : Value} (n : Int) (l : List Act6) (hA : Old S 2 v1 (rows act6C l)) (h : Sat S w G) :
    Ret Try.prog F.law06_EpochRises #[.int .i64 n, v1] w (fun v w' => v = .bool true ∧ Sat S w' []) := by
  obtain ⟨a1, len, cap, rfl, _⟩ := hA _ w h
  have hlen := (hA _ w h).rlen act6C_len (by decide)
  refine ret_of is_law06_EpochRises rfl ?_
  repeat' (first | (refine gO ?_; refine p_skip rfl ?_) | (refine gC F.law06_awake ?_; refine p_call rfl rfl (law06_awake_spec h) ?_; rintro _ w ⟨rfl, h⟩) | (refine gO ?_; first | refine p_val rfl (gives_pure rfl) ?_ | (refine gB .add ?_; first | refine p_val rfl (g_add_i rfl rfl (by omega) (by omega)) ?_ | refine p_val rfl (g_add_u rfl rfl (by omega) (by omega)) ?_) | (refine gB _ ?_; first | refine p_cmp_t rfl rfl rfl rfl (by first | exact rfl | (simp only [cmpProp]; omega) | decide) ?_ | refine p_cmp_f rfl rfl rfl rfl (by first | exact rfl | (simp only [cmpProp]; omega) | decide) ?_ | (refine p_cmp rfl rfl rfl rfl (fun hc => ?_) (fun hc => ?_) <;> simp only [cmpProp] at hc)) | (refine gL ?_; first | refine p_val rfl (g_ld rfl (h.cell (by repeat first | exact .here | apply Has.there) (by exact rfl))) ?_ | refine p_val rfl (g_lda rfl rfl (h.at (by repeat first | exact .here | apply Has.there))) ?_) | refine p_val rfl (g_idx rfl rfl (by omega) (by omega)) ?_) | refine x_nil ?_ | (refine gX ?_; first | refine x_seq ?_ | refine x_ops ?_ | refine x_cond_t rfl ?_ | refine x_cond_f rfl ?_ | refine x_block ?_ | refine x_skip ?_ | refine x_exit rfl ?_) | refine x_blk ?_)
  refine p_call rfl rfl (epoch_New_spec n h) ?_
  rintro _ w (⟨hx, rfl, h⟩ | ⟨_, _, b, rfl, h⟩)
  · repeat' (first | (refine gO ?_; refine p_skip rfl ?_) | (refine gO ?_; first | refine p_val rfl (gives_pure rfl) ?_ | (refine gB .add ?_; first | refine p_val rfl (g_add_i rfl rfl (by omega) (by omega)) ?_ | refine p_val rfl (g_add_u rfl rfl (by omega) (by omega)) ?_) | (refine gB _ ?_; first | refine p_cmp_t rfl rfl rfl rfl (by first | exact rfl | (simp only [cmpProp]; omega) | decide) ?_ | refine p_cmp_f rfl rfl rfl rfl (by first | exact rfl | (simp only [cmpProp]; omega) | decide) ?_ | (refine p_cmp rfl rfl rfl rfl (fun hc => ?_) (fun hc => ?_) <;> simp only [cmpProp] at hc)) | (refine gL ?_; first | refine p_val rfl (g_ld rfl (h.cell (by repeat first | exact .here | apply Has.there) (by exact rfl))) ?_ | refine p_val rfl (g_lda rfl rfl (h.at (by repeat first | exact .here | apply Has.there))) ?_) | refine p_val rfl (g_idx rfl rfl (by omega) (by omega)) ?_) | refine x_nil ?_ | (refine gX ?_; first | refine x_seq ?_ | refine x_ops ?_ | refine x_cond_t rfl ?_ | refine x_cond_f rfl ?_ | refine x_block ?_ | refine x_skip ?_ | refine x_exit rfl ?_) | refine x_blk ?_)
    exact x_ret' is_law06_EpochRises rfl ⟨rfl, h.nil⟩
  repeat' (first | (refine gO ?_; refine p_skip rfl ?_) | (refine gO ?_; first | refine p_val rfl (gives_pure rfl) ?_ | (refine gB .add ?_; first | refine p_val rfl (g_add_i rfl rfl (by omega) (by omega)) ?_ | refine p_val rfl (g_add_u rfl rfl (by omega) (by omega)) ?_) | (refine gB _ ?_; first | refine p_cmp_t rfl rfl rfl rfl (by first | exact rfl | (simp only [cmpProp]; omega) | decide) ?_ | refine p_cmp_f rfl rfl rfl rfl (by first | exact rfl | (simp only [cmpProp]; omega) | decide) ?_ | (refine p_cmp rfl rfl rfl rfl (fun hc => ?_) (fun hc => ?_) <;> simp only [cmpProp] at hc)) | (refine gL ?_; first | refine p_val rfl (g_ld rfl (h.cell (by repeat first | exact .here | apply Has.there) (by exact rfl))) ?_ | refine p_val rfl (g_lda rfl rfl (h.at (by repeat first | exact .here | apply Has.there))) ?_) | refine p_val rfl (g_idx rfl rfl (by omega) (by omega)) ?_) | refine x_nil ?_ | (refine gX ?_; first | refine x_seq ?_ | refine x_ops ?_ | refine x_cond_t rfl ?_ | refine x_cond_f rfl ?_ | refine x_block ?_ | refine x_skip ?_ | refine x_exit rfl ?_) | refine x_blk ?_)
  refine p_call rfl rfl (epoch_Table_Safe_spec h) ?_
  rintro _ w ⟨rfl, h⟩
  repeat' (first | (refine gO ?_; refine p_skip rfl ?_) | (refine gO ?_; first | refine p_val rfl (gives_pure rfl) ?_ | (refine gB .add ?_; first | refine p_val rfl (g_add_i rfl rfl (by omega) (by omega)) ?_ | refine p_val rfl (g_add_u rfl rfl (by omega) (by omega)) ?_) | (refine gB _ ?_; first | refine p_cmp_t rfl rfl rfl rfl (by first | exact rfl | (simp only [cmpProp]; omega) | decide) ?_ | refine p_cmp_f rfl rfl rfl rfl (by first | exact rfl | (simp only [cmpProp]; omega) | decide) ?_ | (refine p_cmp rfl rfl rfl rfl (fun hc => ?_) (fun hc => ?_) <;> simp only [cmpProp] at hc)) | (refine gL ?_; first | refine p_val rfl (g_ld rfl (h.cell (by repeat first | exact .here | apply Has.there) (by exact rfl))) ?_ | refine p_val rfl (g_lda rfl rfl (h.at (by repeat first | exact .here | apply Has.there))) ?_) | refine p_val rfl (g_idx rfl rfl (by omega) (by omega)) ?_) | refine x_nil ?_ | (refine gX ?_; first | refine x_seq ?_ | refine x_ops ?_ | refine x_cond_t rfl ?_ | refine x_cond_f rfl ?_ | refine x_block ?_ | refine x_skip ?_ | refine x_exit rfl ?_) | refine x_blk ?_)
  refine x_keep [1, 5, 7, 8] rfl ?_
  refine x_loop_inv (fun lm le w => ∃ (i : Nat), ∃ (t : TabM), lm = len - i ∧ i ≤ len ∧ i ≤ 200 ∧ t.now ≤ i + 1 ∧ le = [(1, .slice a1 len cap), (5, .pointer (some ⟨b, 0, none⟩)), (7, .int .u64 (safeT t)), (8, .int .i64 i)] ∧ Sat S w (isTab b t :: G)) (len) ⟨0, _, rfl, by omega, by omega, by simp, rfl, h⟩ ?_
  clear h
  rintro lm le w ⟨i, t, rfl, hi0, hi1, hi2, rfl, h⟩ ih
  by_cases h1 : i < len ∧ i < 200
  · obtain ⟨x, hx⟩ := has_elem (show i < l.length by omega)
    obtain ⟨_, _, _, hok, _⟩ := isTab_open h
    obtain ⟨bb, o, rfl⟩ := (hA _ w h).addr (by omega)
    have hsr := safe_rises hok (by omega) x.kind x.s
    obtain ⟨d1, d2, d3⟩ := does_ok hok (by omega) x.kind x.s
    repeat' (first | (refine gO ?_; refine p_skip rfl ?_) | (refine gL ?_; refine p_val rfl (g_ldE act6C_len rfl (hA _ _ h) hx (by omega)) ?_) | (refine gO ?_; first | refine p_val rfl (gives_pure rfl) ?_ | (refine gB .add ?_; first | refine p_val rfl (g_add_i rfl rfl (by omega) (by omega)) ?_ | refine p_val rfl (g_add_u rfl rfl (by omega) (by omega)) ?_) | (refine gB _ ?_; first | refine p_cmp_t rfl rfl rfl rfl (by first | exact rfl | (simp only [cmpProp]; omega) | decide) ?_ | refine p_cmp_f rfl rfl rfl rfl (by first | exact rfl | (simp only [cmpProp]; omega) | decide) ?_ | (refine p_cmp rfl rfl rfl rfl (fun hc => ?_) (fun hc => ?_) <;> simp only [cmpProp] at hc)) | (refine gL ?_; first | refine p_val rfl (g_ld rfl (h.cell (by repeat first | exact .here | apply Has.there) (by exact rfl))) ?_ | refine p_val rfl (g_lda rfl rfl (h.at (by repeat first | exact .here | apply Has.there))) ?_) | refine p_val rfl (g_idx rfl rfl (by omega) (by omega)) ?_) | refine x_nil ?_ | (refine gX ?_; first | refine x_seq ?_ | refine x_ops ?_ | refine x_cond_t rfl ?_ | refine x_cond_f rfl ?_ | refine x_block ?_ | refine x_skip ?_ | refine x_exit rfl ?_) | refine x_blk ?_)
    refine p_call rfl rfl (law06_does_spec x.kind x.s (by omega) h) ?_
    rintro _ w ⟨rfl, h⟩
    generalize (doesT t x.kind x.s).2 = t' at *
    generalize (doesT t x.kind x.s).1 = e1 at *
    obtain ⟨f1, f2, _⟩ := least_facts t'
    have hs1 : safeT t' = leastT t' - 1 := rfl
    repeat' (first | (refine gO ?_; refine p_skip rfl ?_) | (refine gC F.epoch_Table_Safe ?_; refine p_call rfl rfl (epoch_Table_Safe_spec h) ?_; rintro _ w ⟨rfl, h⟩) | (refine gC F.epoch_Table_Now ?_; refine p_call rfl rfl (epoch_Table_Now_spec h) ?_; rintro _ w ⟨rfl, h⟩) | (refine gO ?_; first | refine p_val rfl (gives_pure rfl) ?_ | (refine gB .add ?_; first | refine p_val rfl (g_add_i rfl rfl (by omega) (by omega)) ?_ | refine p_val rfl (g_add_u rfl rfl (by omega) (by omega)) ?_) | (refine gB _ ?_; first | refine p_cmp_t rfl rfl rfl rfl (by first | exact rfl | (simp only [cmpProp]; omega) | decide) ?_ | refine p_cmp_f rfl rfl rfl rfl (by first | exact rfl | (simp only [cmpProp]; omega) | decide) ?_ | (refine p_cmp rfl rfl rfl rfl (fun hc => ?_) (fun hc => ?_) <;> simp only [cmpProp] at hc)) | (refine gL ?_; first | refine p_val rfl (g_ld rfl (h.cell (by repeat first | exact .here | apply Has.there) (by exact rfl))) ?_ | refine p_val rfl (g_lda rfl rfl (h.at (by repeat first | exact .here | apply Has.there))) ?_) | refine p_val rfl (g_idx rfl rfl (by omega) (by omega)) ?_) | refine x_nil ?_ | (refine gX ?_; first | refine x_seq ?_ | refine x_ops ?_ | refine x_cond_t rfl ?_ | refine x_cond_f rfl ?_ | refine x_block ?_ | refine x_skip ?_ | refine x_exit rfl ?_) | refine x_blk ?_)
    refine p_call rfl rfl (epoch_Table_In_spec h) ?_
    rintro v10 w h
    obtain ⟨a10, ln, cn, rfl, hln, _⟩ := ownS_slice h .here
    rw [ints_length, Nat.mul_one] at hln
    have hil := inF_length t'.seen 0
    have hl8 := d1.2.2.2.1
    have hit : (inT t').length ≤ 8 := by unfold inT; omega
    repeat' (first | (refine gO ?_; refine p_skip rfl ?_) | (refine gO ?_; first | refine p_val rfl (gives_pure rfl) ?_ | (refine gB .add ?_; first | refine p_val rfl (g_add_i rfl rfl (by omega) (by omega)) ?_ | refine p_val rfl (g_add_u rfl rfl (by omega) (by omega)) ?_) | (refine gB _ ?_; first | refine p_cmp_t rfl rfl rfl rfl (by first | exact rfl | (simp only [cmpProp]; omega) | decide) ?_ | refine p_cmp_f rfl rfl rfl rfl (by first | exact rfl | (simp only [cmpProp]; omega) | decide) ?_ | (refine p_cmp rfl rfl rfl rfl (fun hc => ?_) (fun hc => ?_) <;> simp only [cmpProp] at hc)) | (refine gL ?_; first | refine p_val rfl (g_ld rfl (h.cell (by repeat first | exact .here | apply Has.there) (by exact rfl))) ?_ | refine p_val rfl (g_lda rfl rfl (h.at (by repeat first | exact .here | apply Has.there))) ?_) | refine p_val rfl (g_idx rfl rfl (by omega) (by omega)) ?_) | refine x_nil ?_ | (refine gX ?_; first | refine x_seq ?_ | refine x_ops ?_ | refine x_cond_t rfl ?_ | refine x_cond_f rfl ?_ | refine x_block ?_ | refine x_skip ?_ | refine x_exit rfl ?_) | refine x_blk ?_)
    refine x_keep [1, 5, 8, 9, 10, 11] rfl ?_
    refine x_loop_inv (fun lm le w => ∃ (j : Nat), lm = ln - j ∧ j ≤ ln ∧ le = [(1, .slice (some ⟨bb, o, none⟩) len cap), (5, .pointer (some ⟨b, 0, none⟩)), (8, .int .i64 i), (9, .int .u64 (safeT t')), (10, .slice a10 ln cn), (11, .int .i64 j)] ∧ Sat S w (ownS T.int 1 (.slice a10 ln cn) (ints .i64 (inT t')) :: isTab b t' :: G)) (ln) ⟨0, rfl, by omega, rfl, h⟩ ?_
    clear h
    rintro lm le w ⟨j, rfl, hi0, rfl, h⟩ ihj
    by_cases h2 : j < ln
    · have hy : (inT t')[j]? = some ((inT t').getD j 0) := by rw [List.getD_eq_getElem?_getD, List.getElem?_eq_getElem (by omega)]; rfl
      have hmem := f2 _ (List.mem_of_getElem? hy)
      obtain ⟨bn, rfl⟩ := ownS_addr h .here (by omega)
      have hrd := ownS_rd h .here
      generalize hq : (inT t').getD j 0 = q at *
      repeat' (first | (refine gO ?_; refine p_skip rfl ?_) | (refine gL ?_; refine p_val rfl (g_ldI (i := j) rfl hrd (by omega) (by omega)) ?_; rw [hq]) | (refine gO ?_; first | refine p_val rfl (gives_pure rfl) ?_ | (refine gB .add ?_; first | refine p_val rfl (g_add_i rfl rfl (by omega) (by omega)) ?_ | refine p_val rfl (g_add_u rfl rfl (by omega) (by omega)) ?_) | (refine gB _ ?_; first | refine p_cmp_t rfl rfl rfl rfl (by first | exact rfl | (simp only [cmpProp]; omega) | decide) ?_ | refine p_cmp_f rfl rfl rfl rfl (by first | exact rfl | (simp only [cmpProp]; omega) | decide) ?_ | (refine p_cmp rfl rfl rfl rfl (fun hc => ?_) (fun hc => ?_) <;> simp only [cmpProp] at hc)) | (refine gL ?_; first | refine p_val rfl (g_ld rfl (h.cell (by repeat first | exact .here | apply Has.there) (by exact rfl))) ?_ | refine p_val rfl (g_lda rfl rfl (h.at (by repeat first | exact .here | apply Has.there))) ?_) | refine p_val rfl (g_idx rfl rfl (by omega) (by omega)) ?_) | refine x_nil ?_ | (refine gX ?_; first | refine x_seq ?_ | refine x_ops ?_ | refine x_cond_t rfl ?_ | refine x_cond_f rfl ?_ | refine x_block ?_ | refine x_skip ?_ | refine x_exit rfl ?_) | refine x_blk ?_)
      refine p_call rfl rfl (epoch_Table_Seen_spec q (h.pick (.there .here))) ?_
      rintro _ w ⟨rfl, h⟩
      repeat' (first | (refine gO ?_; refine p_skip rfl ?_) | (refine gO ?_; first | refine p_val rfl (gives_pure rfl) ?_ | (refine gB .add ?_; first | refine p_val rfl (g_add_i rfl rfl (by omega) (by omega)) ?_ | refine p_val rfl (g_add_u rfl rfl (by omega) (by omega)) ?_) | (refine gB _ ?_; first | refine p_cmp_t rfl rfl rfl rfl (by first | exact rfl | (simp only [cmpProp]; omega) | decide) ?_ | refine p_cmp_f rfl rfl rfl rfl (by first | exact rfl | (simp only [cmpProp]; omega) | decide) ?_ | (refine p_cmp rfl rfl rfl rfl (fun hc => ?_) (fun hc => ?_) <;> simp only [cmpProp] at hc)) | (refine gL ?_; first | refine p_val rfl (g_ld rfl (h.cell (by repeat first | exact .here | apply Has.there) (by exact rfl))) ?_ | refine p_val rfl (g_lda rfl rfl (h.at (by repeat first | exact .here | apply Has.there))) ?_) | refine p_val rfl (g_idx rfl rfl (by omega) (by omega)) ?_) | refine x_nil ?_ | (refine gX ?_; first | refine x_seq ?_ | refine x_ops ?_ | refine x_cond_t rfl ?_ | refine x_cond_f rfl ?_ | refine x_block ?_ | refine x_skip ?_ | refine x_exit rfl ?_) | refine x_blk ?_)
      exact x_keep [1, 5, 8, 9, 10, 11] rfl (ihj _ _ _ (by omega) ⟨j + 1, rfl, by omega, rfl, h.pick (.there .here)⟩)
    · obtain rfl : j = ln := by omega
      repeat' (first | (refine gO ?_; refine p_skip rfl ?_) | (refine gO ?_; first | refine p_val rfl (gives_pure rfl) ?_ | (refine gB .add ?_; first | refine p_val rfl (g_add_i rfl rfl (by omega) (by omega)) ?_ | refine p_val rfl (g_add_u rfl rfl (by omega) (by omega)) ?_) | (refine gB _ ?_; first | refine p_cmp_t rfl rfl rfl rfl (by first | exact rfl | (simp only [cmpProp]; omega) | decide) ?_ | refine p_cmp_f rfl rfl rfl rfl (by first | exact rfl | (simp only [cmpProp]; omega) | decide) ?_ | (refine p_cmp rfl rfl rfl rfl (fun hc => ?_) (fun hc => ?_) <;> simp only [cmpProp] at hc)) | (refine gL ?_; first | refine p_val rfl (g_ld rfl (h.cell (by repeat first | exact .here | apply Has.there) (by exact rfl))) ?_ | refine p_val rfl (g_lda rfl rfl (h.at (by repeat first | exact .here | apply Has.there))) ?_) | refine p_val rfl (g_idx rfl rfl (by omega) (by omega)) ?_) | refine x_nil ?_ | (refine gX ?_; first | refine x_seq ?_ | refine x_ops ?_ | refine x_cond_t rfl ?_ | refine x_cond_f rfl ?_ | refine x_block ?_ | refine x_skip ?_ | refine x_exit rfl ?_) | refine x_blk ?_)
      refine x_keep [1, 5, 7, 8] rfl (ih _ _ _ (by omega) ⟨i + 1, t', rfl, by omega, by omega, by omega, rfl, h.drop⟩)
  · repeat' (first | (refine gO ?_; refine p_skip rfl ?_) | (refine gO ?_; first | refine p_val rfl (gives_pure rfl) ?_ | (refine gB .add ?_; first | refine p_val rfl (g_add_i rfl rfl (by omega) (by omega)) ?_ | refine p_val rfl (g_add_u rfl rfl (by omega) (by omega)) ?_) | (refine gB _ ?_; first | refine p_cmp_t rfl rfl rfl rfl (by first | exact rfl | (simp only [cmpProp]; omega) | decide) ?_ | refine p_cmp_f rfl rfl rfl rfl (by first | exact rfl | (simp only [cmpProp]; omega) | decide) ?_ | (refine p_cmp rfl rfl rfl rfl (fun hc => ?_) (fun hc => ?_) <;> simp only [cmpProp] at hc)) | (refine gL ?_; first | refine p_val rfl (g_ld rfl (h.cell (by repeat first | exact .here | apply Has.there) (by exact rfl))) ?_ | refine p_val rfl (g_lda rfl rfl (h.at (by repeat first | exact .here | apply Has.there))) ?_) | refine p_val rfl (g_idx rfl rfl (by omega) (by omega)) ?_) | refine x_nil ?_ | (refine gX ?_; first | refine x_seq ?_ | refine x_ops ?_ | refine x_cond_t rfl ?_ | refine x_cond_f rfl ?_ | refine x_block ?_ | refine x_skip ?_ | refine x_exit rfl ?_) | refine x_blk ?_)
    all_goals first | (exfalso; omega) | exact x_ret' is_law06_EpochRises rfl ⟨rfl, h.nil⟩

set_option maxHeartbeats 3000000 in
theorem law06_EpochComes_spec {v1 v2 : Value} (n : Int) (l : List Act6) (bs : List Bool) (hA : Old S 2 v1 (rows act6C l)) (hB : Old S 1 v2 (rows bool6C bs)) (h : Sat S w G) :
    Ret Try.prog F.law06_EpochComes #[.int .i64 n, v1, v2] w (fun v w' => v = .bool true ∧ Sat S w' []) := by
  obtain ⟨a1, len, cap, rfl, _⟩ := hA _ w h
  have hlen := (hA _ w h).rlen act6C_len (by decide)
  obtain ⟨a2, len2, cap2, rfl, _⟩ := hB _ w h
  have hlen2 := (hB _ w h).rlen bool6C_len (by decide)
  refine ret_of is_law06_EpochComes rfl ?_
  repeat' (first | (refine gO ?_; refine p_skip rfl ?_) | (refine gC F.law06_awake ?_; refine p_call rfl rfl (law06_awake_spec h) ?_; rintro _ w ⟨rfl, h⟩) | (refine gO ?_; first | refine p_val rfl (gives_pure rfl) ?_ | (refine gB .add ?_; first | refine p_val rfl (g_add_i rfl rfl (by omega) (by omega)) ?_ | refine p_val rfl (g_add_u rfl rfl (by omega) (by omega)) ?_) | (refine gB _ ?_; first | refine p_cmp_t rfl rfl rfl rfl (by first | exact rfl | (simp only [cmpProp]; omega) | decide) ?_ | refine p_cmp_f rfl rfl rfl rfl (by first | exact rfl | (simp only [cmpProp]; omega) | decide) ?_ | (refine p_cmp rfl rfl rfl rfl (fun hc => ?_) (fun hc => ?_) <;> simp only [cmpProp] at hc)) | (refine gL ?_; first | refine p_val rfl (g_ld rfl (h.cell (by repeat first | exact .here | apply Has.there) (by exact rfl))) ?_ | refine p_val rfl (g_lda rfl rfl (h.at (by repeat first | exact .here | apply Has.there))) ?_) | refine p_val rfl (g_idx rfl rfl (by omega) (by omega)) ?_) | refine x_nil ?_ | (refine gX ?_; first | refine x_seq ?_ | refine x_ops ?_ | refine x_cond_t rfl ?_ | refine x_cond_f rfl ?_ | refine x_block ?_ | refine x_skip ?_ | refine x_exit rfl ?_) | refine x_blk ?_)
  refine p_call rfl rfl (epoch_New_spec n h) ?_
  rintro _ w (⟨hx, rfl, h⟩ | ⟨_, _, b, rfl, h⟩)
  · repeat' (first | (refine gO ?_; refine p_skip rfl ?_) | (refine gO ?_; first | refine p_val rfl (gives_pure rfl) ?_ | (refine gB .add ?_; first | refine p_val rfl (g_add_i rfl rfl (by omega) (by omega)) ?_ | refine p_val rfl (g_add_u rfl rfl (by omega) (by omega)) ?_) | (refine gB _ ?_; first | refine p_cmp_t rfl rfl rfl rfl (by first | exact rfl | (simp only [cmpProp]; omega) | decide) ?_ | refine p_cmp_f rfl rfl rfl rfl (by first | exact rfl | (simp only [cmpProp]; omega) | decide) ?_ | (refine p_cmp rfl rfl rfl rfl (fun hc => ?_) (fun hc => ?_) <;> simp only [cmpProp] at hc)) | (refine gL ?_; first | refine p_val rfl (g_ld rfl (h.cell (by repeat first | exact .here | apply Has.there) (by exact rfl))) ?_ | refine p_val rfl (g_lda rfl rfl (h.at (by repeat first | exact .here | apply Has.there))) ?_) | refine p_val rfl (g_idx rfl rfl (by omega) (by omega)) ?_) | refine x_nil ?_ | (refine gX ?_; first | refine x_seq ?_ | refine x_ops ?_ | refine x_cond_t rfl ?_ | refine x_cond_f rfl ?_ | refine x_block ?_ | refine x_skip ?_ | refine x_exit rfl ?_) | refine x_blk ?_)
    exact x_ret' is_law06_EpochComes rfl ⟨rfl, h.nil⟩
  repeat' (first | (refine gO ?_; refine p_skip rfl ?_) | (refine gO ?_; first | refine p_val rfl (gives_pure rfl) ?_ | (refine gB .add ?_; first | refine p_val rfl (g_add_i rfl rfl (by omega) (by omega)) ?_ | refine p_val rfl (g_add_u rfl rfl (by omega) (by omega)) ?_) | (refine gB _ ?_; first | refine p_cmp_t rfl rfl rfl rfl (by first | exact rfl | (simp only [cmpProp]; omega) | decide) ?_ | refine p_cmp_f rfl rfl rfl rfl (by first | exact rfl | (simp only [cmpProp]; omega) | decide) ?_ | (refine p_cmp rfl rfl rfl rfl (fun hc => ?_) (fun hc => ?_) <;> simp only [cmpProp] at hc)) | (refine gL ?_; first | refine p_val rfl (g_ld rfl (h.cell (by repeat first | exact .here | apply Has.there) (by exact rfl))) ?_ | refine p_val rfl (g_lda rfl rfl (h.at (by repeat first | exact .here | apply Has.there))) ?_) | refine p_val rfl (g_idx rfl rfl (by omega) (by omega)) ?_) | refine x_nil ?_ | (refine gX ?_; first | refine x_seq ?_ | refine x_ops ?_ | refine x_cond_t rfl ?_ | refine x_cond_f rfl ?_ | refine x_block ?_ | refine x_skip ?_ | refine x_exit rfl ?_) | refine x_blk ?_)
  refine x_keep [1, 2, 7, 9] rfl ?_
  refine x_loop_inv (fun lm le w => ∃ (i : Nat), ∃ (t : TabM), lm = len - i ∧ i ≤ len ∧ i ≤ 200 ∧ t.now ≤ i + 1 ∧ le = [(1, .slice a1 len cap), (2, .slice a2 len2 cap2), (7, .pointer (some ⟨b, 0, none⟩)), (9, .int .i64 i)] ∧ Sat S w (isTab b t :: G)) (len) ⟨0, _, rfl, by omega, by omega, by simp, rfl, h⟩ ?_
  clear h
  rintro lm le w ⟨i, t, rfl, hi0, hi1, hi2, rfl, h⟩ ih
  obtain ⟨_, _, _, hok, _⟩ := isTab_open h
  by_cases h1 : i < len ∧ i < 200
  · obtain ⟨x, hx⟩ := has_elem (show i < l.length by omega)
    obtain ⟨bb, o, rfl⟩ := (hA _ w h).addr (by omega)
    obtain ⟨d1, d2, d3⟩ := does_ok hok (by omega) x.kind x.s
    repeat' (first | (refine gO ?_; refine p_skip rfl ?_) | (refine gL ?_; refine p_val rfl (g_ldE act6C_len rfl (hA _ _ h) hx (by omega)) ?_) | (refine gO ?_; first | refine p_val rfl (gives_pure rfl) ?_ | (refine gB .add ?_; first | refine p_val rfl (g_add_i rfl rfl (by omega) (by omega)) ?_ | refine p_val rfl (g_add_u rfl rfl (by omega) (by omega)) ?_) | (refine gB _ ?_; first | refine p_cmp_t rfl rfl rfl rfl (by first | exact rfl | (simp only [cmpProp]; omega) | decide) ?_ | refine p_cmp_f rfl rfl rfl rfl (by first | exact rfl | (simp only [cmpProp]; omega) | decide) ?_ | (refine p_cmp rfl rfl rfl rfl (fun hc => ?_) (fun hc => ?_) <;> simp only [cmpProp] at hc)) | (refine gL ?_; first | refine p_val rfl (g_ld rfl (h.cell (by repeat first | exact .here | apply Has.there) (by exact rfl))) ?_ | refine p_val rfl (g_lda rfl rfl (h.at (by repeat first | exact .here | apply Has.there))) ?_) | refine p_val rfl (g_idx rfl rfl (by omega) (by omega)) ?_) | refine x_nil ?_ | (refine gX ?_; first | refine x_seq ?_ | refine x_ops ?_ | refine x_cond_t rfl ?_ | refine x_cond_f rfl ?_ | refine x_block ?_ | refine x_skip ?_ | refine x_exit rfl ?_) | refine x_blk ?_)
    refine p_call rfl rfl (law06_does_spec x.kind x.s (by omega) h) ?_
    rintro _ w ⟨rfl, h⟩
    repeat' (first | (refine gO ?_; refine p_skip rfl ?_) | (refine gO ?_; first | refine p_val rfl (gives_pure rfl) ?_ | (refine gB .add ?_; first | refine p_val rfl (g_add_i rfl rfl (by omega) (by omega)) ?_ | refine p_val rfl (g_add_u rfl rfl (by omega) (by omega)) ?_) | (refine gB _ ?_; first | refine p_cmp_t rfl rfl rfl rfl (by first | exact rfl | (simp only [cmpProp]; omega) | decide) ?_ | refine p_cmp_f rfl rfl rfl rfl (by first | exact rfl | (simp only [cmpProp]; omega) | decide) ?_ | (refine p_cmp rfl rfl rfl rfl (fun hc => ?_) (fun hc => ?_) <;> simp only [cmpProp] at hc)) | (refine gL ?_; first | refine p_val rfl (g_ld rfl (h.cell (by repeat first | exact .here | apply Has.there) (by exact rfl))) ?_ | refine p_val rfl (g_lda rfl rfl (h.at (by repeat first | exact .here | apply Has.there))) ?_) | refine p_val rfl (g_idx rfl rfl (by omega) (by omega)) ?_) | refine x_nil ?_ | (refine gX ?_; first | refine x_seq ?_ | refine x_ops ?_ | refine x_cond_t rfl ?_ | refine x_cond_f rfl ?_ | refine x_block ?_ | refine x_skip ?_ | refine x_exit rfl ?_) | refine x_blk ?_)
    exact x_keep [1, 2, 7, 9] rfl (ih _ _ _ (by omega) ⟨i + 1, (doesT t x.kind x.s).2, rfl, by omega, by omega, by omega, rfl, h⟩)
  · repeat' (first | (refine gO ?_; refine p_skip rfl ?_) | (refine gO ?_; first | refine p_val rfl (gives_pure rfl) ?_ | (refine gB .add ?_; first | refine p_val rfl (g_add_i rfl rfl (by omega) (by omega)) ?_ | refine p_val rfl (g_add_u rfl rfl (by omega) (by omega)) ?_) | (refine gB _ ?_; first | refine p_cmp_t rfl rfl rfl rfl (by first | exact rfl | (simp only [cmpProp]; omega) | decide) ?_ | refine p_cmp_f rfl rfl rfl rfl (by first | exact rfl | (simp only [cmpProp]; omega) | decide) ?_ | (refine p_cmp rfl rfl rfl rfl (fun hc => ?_) (fun hc => ?_) <;> simp only [cmpProp] at hc)) | (refine gL ?_; first | refine p_val rfl (g_ld rfl (h.cell (by repeat first | exact .here | apply Has.there) (by exact rfl))) ?_ | refine p_val rfl (g_lda rfl rfl (h.at (by repeat first | exact .here | apply Has.there))) ?_) | refine p_val rfl (g_idx rfl rfl (by omega) (by omega)) ?_) | refine x_nil ?_ | (refine gX ?_; first | refine x_seq ?_ | refine x_ops ?_ | refine x_cond_t rfl ?_ | refine x_cond_f rfl ?_ | refine x_block ?_ | refine x_skip ?_ | refine x_exit rfl ?_) | refine x_blk ?_)
    all_goals first | (exfalso; omega) | skip
    all_goals
      refine p_call rfl rfl (epoch_Table_Bump_spec (by omega) h) ?_
      rintro _ w ⟨rfl, h⟩
      repeat' (first | (refine gO ?_; refine p_skip rfl ?_) | (refine gO ?_; first | refine p_val rfl (gives_pure rfl) ?_ | (refine gB .add ?_; first | refine p_val rfl (g_add_i rfl rfl (by omega) (by omega)) ?_ | refine p_val rfl (g_add_u rfl rfl (by omega) (by omega)) ?_) | (refine gB _ ?_; first | refine p_cmp_t rfl rfl rfl rfl (by first | exact rfl | (simp only [cmpProp]; omega) | decide) ?_ | refine p_cmp_f rfl rfl rfl rfl (by first | exact rfl | (simp only [cmpProp]; omega) | decide) ?_ | (refine p_cmp rfl rfl rfl rfl (fun hc => ?_) (fun hc => ?_) <;> simp only [cmpProp] at hc)) | (refine gL ?_; first | refine p_val rfl (g_ld rfl (h.cell (by repeat first | exact .here | apply Has.there) (by exact rfl))) ?_ | refine p_val rfl (g_lda rfl rfl (h.at (by repeat first | exact .here | apply Has.there))) ?_) | refine p_val rfl (g_idx rfl rfl (by omega) (by omega)) ?_) | refine x_nil ?_ | (refine gX ?_; first | refine x_seq ?_ | refine x_ops ?_ | refine x_cond_t rfl ?_ | refine x_cond_f rfl ?_ | refine x_block ?_ | refine x_skip ?_ | refine x_exit rfl ?_) | refine x_blk ?_)
      refine p_call rfl rfl (epoch_Table_In_spec h) ?_
      rintro v12 w h
      obtain ⟨a12, ln, cn, rfl, hln, _⟩ := ownS_slice h .here
      rw [ints_length, Nat.mul_one] at hln
      have hl8 := hok.2.2.2.1
      have hit : (inT ⟨t.now + 1, t.seen⟩).length ≤ 8 := by have := inF_length t.seen 0; unfold inT; simp only; omega
      have hsort := inF_sorted t.seen 0
      have hin : inT ⟨t.now + 1, t.seen⟩ = inF 0 t.seen := rfl
      have hst : ∀ q, seenT ⟨t.now + 1, t.seen⟩ q = seenT t q := fun q => rfl
      have hmm : ∀ q, q ∈ inF 0 t.seen ↔ isSess t q ∧ 0 < seenT t q := fun q => inT_mem (t := t)
      rw [hin] at h hln hit
      generalize inF 0 t.seen = L at *
      have h0q : ∀ q, q ∉ L.drop 0 → seenT ⟨t.now + 1, t.seen⟩ q = 0 ∨ seenT ⟨t.now + 1, t.seen⟩ q = t.now + 1 := fun q hq => by
        refine .inl ?_
        rw [hst]
        have h1 := (seenT_ok hok q).1
        have h2 : ¬ (isSess t q ∧ 0 < seenT t q) := fun hx => hq ((hmm q).2 hx)
        rcases Classical.em (isSess t q) with hs | hs
        · have : ¬ 0 < seenT t q := fun hp => h2 ⟨hs, hp⟩
          omega
        · rw [seenT, if_neg hs]
      repeat' (first | (refine gO ?_; refine p_skip rfl ?_) | (refine gO ?_; first | refine p_val rfl (gives_pure rfl) ?_ | (refine gB .add ?_; first | refine p_val rfl (g_add_i rfl rfl (by omega) (by omega)) ?_ | refine p_val rfl (g_add_u rfl rfl (by omega) (by omega)) ?_) | (refine gB _ ?_; first | refine p_cmp_t rfl rfl rfl rfl (by first | exact rfl | (simp only [cmpProp]; omega) | decide) ?_ | refine p_cmp_f rfl rfl rfl rfl (by first | exact rfl | (simp only [cmpProp]; omega) | decide) ?_ | (refine p_cmp rfl rfl rfl rfl (fun hc => ?_) (fun hc => ?_) <;> simp only [cmpProp] at hc)) | (refine gL ?_; first | refine p_val rfl (g_ld rfl (h.cell (by repeat first | exact .here | apply Has.there) (by exact rfl))) ?_ | refine p_val rfl (g_lda rfl rfl (h.at (by repeat first | exact .here | apply Has.there))) ?_) | refine p_val rfl (g_idx rfl rfl (by omega) (by omega)) ?_) | refine x_nil ?_ | (refine gX ?_; first | refine x_seq ?_ | refine x_ops ?_ | refine x_cond_t rfl ?_ | refine x_cond_f rfl ?_ | refine x_block ?_ | refine x_skip ?_ | refine x_exit rfl ?_) | refine x_blk ?_)
      refine x_keep [2, 7, 10, 12, 13] rfl ?_
      refine x_loop_inv (fun lm le w => ∃ (k : Nat), ∃ (t2 : TabM), lm = ln - k ∧ k ≤ ln ∧ t2.now = t.now + 1 ∧ t2.seen.length = t.seen.length ∧ (∀ q ∈ L.drop k, seenT t2 q = seenT t q) ∧ (∀ q, q ∉ L.drop k → seenT t2 q = 0 ∨ seenT t2 q = t.now + 1) ∧ le = [(2, .slice a2 len2 cap2), (7, .pointer (some ⟨b, 0, none⟩)), (10, .int .u64 t.now), (12, .slice a12 ln cn), (13, .int .i64 k)] ∧ Sat S w (ownS T.int 1 (.slice a12 ln cn) (ints .i64 L) :: isTab b t2 :: G)) (ln) ⟨0, ⟨t.now + 1, t.seen⟩, rfl, by omega, rfl, rfl, fun q _ => rfl, h0q, rfl, h⟩ ?_
      clear h
      rintro lm le w ⟨k, t2, rfl, hi0, hi1, hi2, hi3, hi4, rfl, h⟩ ihk
      obtain ⟨_, _, _, hok2, _⟩ := isTab_open (h.pick (.there .here))
      obtain ⟨f1, f2, f3⟩ := least_facts t2
      have hs2 : safeT t2 = leastT t2 - 1 := rfl
      have hless := least_ok hok2
      by_cases h3 : k < ln
      · have hy : L[k]? = some (L.getD k 0) := by rw [List.getD_eq_getElem?_getD, List.getElem?_eq_getElem (by omega)]; rfl
        obtain ⟨bn, rfl⟩ := ownS_addr h .here (by omega)
        have hdr := drop_next hy
        have hqL := List.mem_of_getElem? hy
        generalize hq : L.getD k 0 = q at *
        have hpw : (L.drop k).Pairwise (· < ·) := hsort.drop
        rw [hdr, List.pairwise_cons] at hpw
        have hnd : q ∉ L.drop (k + 1) := fun hx => by have := hpw.1 q hx; omega
        have hq1 := (hmm q).1 hqL
        have hq2 : seenT t2 q = seenT t q := hi3 q (by rw [hdr]; exact List.mem_cons_self ..)
        have hsess : isSess t2 q := by have := hq1.1; unfold isSess at this ⊢; omega
        have hq3 := (seenT_ok hok q).2
        have hle := f2 q (inT_mem.2 ⟨hsess, by omega⟩)
        have next : ∀ sees, (sees = 0 ∨ sees = t.now + 1) → ∀ inn other, inn = true → (turnT t2 q inn sees other).2.now = t.now + 1 ∧ (turnT t2 q inn sees other).2.seen.length = t.seen.length ∧ (∀ p ∈ L.drop (k + 1), seenT (turnT t2 q inn sees other).2 p = seenT t p) ∧ (∀ p, p ∉ L.drop (k + 1) → seenT (turnT t2 q inn sees other).2 p = 0 ∨ seenT (turnT t2 q inn sees other).2 p = t.now + 1) := by
          intro sees hsee inn other hinn
          subst hinn
          have hd : true = decide (0 < seenT t2 q) := (decide_eq_true (by omega)).symm
          have he : turnT t2 q true sees other = (0, ⟨t2.now, t2.seen.set q.toNat sees⟩) := by rw [turnT, if_neg (by simpa using hsess), if_neg (by simpa using hd)]
          refine ⟨by rw [he]; exact hi1, by rw [he]; simpa using hi2, fun p hp => ?_, fun p hp => ?_⟩
          · rw [turn_seen, if_neg (fun hx => hnd (by rw [← hx.2.2]; exact hp))]
            exact hi3 p (by rw [hdr]; exact List.mem_cons_of_mem _ hp)
          · rw [turn_seen]
            split
            · exact hsee
            · rename_i hx
              refine hi4 p (fun hm => ?_)
              rw [hdr] at hm
              rcases List.mem_cons.1 hm with rfl | hm
              · exact hx ⟨hsess, hd, rfl⟩
              · exact hp hm
        have hrd := ownS_rd h .here
        repeat' (first | (refine gO ?_; refine p_skip rfl ?_) | (refine gO ?_; first | refine p_val rfl (gives_pure rfl) ?_ | (refine gB .add ?_; first | refine p_val rfl (g_add_i rfl rfl (by omega) (by omega)) ?_ | refine p_val rfl (g_add_u rfl rfl (by omega) (by omega)) ?_) | (refine gB _ ?_; first | refine p_cmp_t rfl rfl rfl rfl (by first | exact rfl | (simp only [cmpProp]; omega) | decide) ?_ | refine p_cmp_f rfl rfl rfl rfl (by first | exact rfl | (simp only [cmpProp]; omega) | decide) ?_ | (refine p_cmp rfl rfl rfl rfl (fun hc => ?_) (fun hc => ?_) <;> simp only [cmpProp] at hc)) | (refine gL ?_; first | refine p_val rfl (g_ld rfl (h.cell (by repeat first | exact .here | apply Has.there) (by exact rfl))) ?_ | refine p_val rfl (g_lda rfl rfl (h.at (by repeat first | exact .here | apply Has.there))) ?_) | refine p_val rfl (g_idx rfl rfl (by omega) (by omega)) ?_) | refine x_nil ?_ | (refine gX ?_; first | refine x_seq ?_ | refine x_ops ?_ | refine x_cond_t rfl ?_ | refine x_cond_f rfl ?_ | refine x_block ?_ | refine x_skip ?_ | refine x_exit rfl ?_) | refine x_blk ?_)
        refine p_call rfl rfl (epoch_Table_Safe_spec (h.pick (.there .here))) ?_
        rintro _ w ⟨rfl, h⟩
        by_cases h4 : k < len2
        · obtain ⟨x2, hx2⟩ := has_elem (show k < bs.length by omega)
          obtain ⟨bb2, o2, rfl⟩ := (hB _ w h).addr (by omega)
          repeat' (first | (refine gO ?_; refine p_skip rfl ?_) | (refine gL ?_; refine p_val rfl (g_ldF (f := 0) (u := .bool x2) bool6C_len rfl (hB _ _ h) hx2 rfl (by omega)) ?_) | (refine gO ?_; first | refine p_val rfl (gives_pure rfl) ?_ | (refine gB .add ?_; first | refine p_val rfl (g_add_i rfl rfl (by omega) (by omega)) ?_ | refine p_val rfl (g_add_u rfl rfl (by omega) (by omega)) ?_) | (refine gB _ ?_; first | refine p_cmp_t rfl rfl rfl rfl (by first | exact rfl | (simp only [cmpProp]; omega) | decide) ?_ | refine p_cmp_f rfl rfl rfl rfl (by first | exact rfl | (simp only [cmpProp]; omega) | decide) ?_ | (refine p_cmp rfl rfl rfl rfl (fun hc => ?_) (fun hc => ?_) <;> simp only [cmpProp] at hc)) | (refine gL ?_; first | refine p_val rfl (g_ld rfl (h.cell (by repeat first | exact .here | apply Has.there) (by exact rfl))) ?_ | refine p_val rfl (g_lda rfl rfl (h.at (by repeat first | exact .here | apply Has.there))) ?_) | refine p_val rfl (g_idx rfl rfl (by omega) (by omega)) ?_) | refine x_nil ?_ | (refine gX ?_; first | refine x_seq ?_ | refine x_ops ?_ | refine x_cond_t rfl ?_ | refine x_cond_f rfl ?_ | refine x_block ?_ | refine x_skip ?_ | refine x_exit rfl ?_) | refine x_blk ?_)
          cases x2
          · repeat' (first | (refine gO ?_; refine p_skip rfl ?_) | (refine gL ?_; refine p_val rfl (g_ldI (i := k) rfl (ownS_rd h (.there .here)) (by omega) (by omega)) ?_; rw [hq]) | (refine gO ?_; first | refine p_val rfl (gives_pure rfl) ?_ | (refine gB .add ?_; first | refine p_val rfl (g_add_i rfl rfl (by omega) (by omega)) ?_ | refine p_val rfl (g_add_u rfl rfl (by omega) (by omega)) ?_) | (refine gB _ ?_; first | refine p_cmp_t rfl rfl rfl rfl (by first | exact rfl | (simp only [cmpProp]; omega) | decide) ?_ | refine p_cmp_f rfl rfl rfl rfl (by first | exact rfl | (simp only [cmpProp]; omega) | decide) ?_ | (refine p_cmp rfl rfl rfl rfl (fun hc => ?_) (fun hc => ?_) <;> simp only [cmpProp] at hc)) | (refine gL ?_; first | refine p_val rfl (g_ld rfl (h.cell (by repeat first | exact .here | apply Has.there) (by exact rfl))) ?_ | refine p_val rfl (g_lda rfl rfl (h.at (by repeat first | exact .here | apply Has.there))) ?_) | refine p_val rfl (g_idx rfl rfl (by omega) (by omega)) ?_) | refine x_nil ?_ | (refine gX ?_; first | refine x_seq ?_ | refine x_ops ?_ | refine x_cond_t rfl ?_ | refine x_cond_f rfl ?_ | refine x_block ?_ | refine x_skip ?_ | refine x_exit rfl ?_) | refine x_blk ?_)
            refine p_call rfl rfl (epoch_Table_Refresh_spec q h) ?_
            rintro _ w ⟨rfl, h⟩
            rw [hi1] at h
            obtain ⟨n1, n2, n3, n4⟩ := next (t.now + 1) (.inr rfl) true 7 rfl
            repeat' (first | (refine gO ?_; refine p_skip rfl ?_) | (refine gO ?_; first | refine p_val rfl (gives_pure rfl) ?_ | (refine gB .add ?_; first | refine p_val rfl (g_add_i rfl rfl (by omega) (by omega)) ?_ | refine p_val rfl (g_add_u rfl rfl (by omega) (by omega)) ?_) | (refine gB _ ?_; first | refine p_cmp_t rfl rfl rfl rfl (by first | exact rfl | (simp only [cmpProp]; omega) | decide) ?_ | refine p_cmp_f rfl rfl rfl rfl (by first | exact rfl | (simp only [cmpProp]; omega) | decide) ?_ | (refine p_cmp rfl rfl rfl rfl (fun hc => ?_) (fun hc => ?_) <;> simp only [cmpProp] at hc)) | (refine gL ?_; first | refine p_val rfl (g_ld rfl (h.cell (by repeat first | exact .here | apply Has.there) (by exact rfl))) ?_ | refine p_val rfl (g_lda rfl rfl (h.at (by repeat first | exact .here | apply Has.there))) ?_) | refine p_val rfl (g_idx rfl rfl (by omega) (by omega)) ?_) | refine x_nil ?_ | (refine gX ?_; first | refine x_seq ?_ | refine x_ops ?_ | refine x_cond_t rfl ?_ | refine x_cond_f rfl ?_ | refine x_block ?_ | refine x_skip ?_ | refine x_exit rfl ?_) | refine x_blk ?_)
            exact x_keep [2, 7, 10, 12, 13] rfl (ihk _ _ _ (by omega) ⟨k + 1, _, rfl, by omega, n1, n2, n3, n4, rfl, h.pick (.there .here)⟩)
          · repeat' (first | (refine gO ?_; refine p_skip rfl ?_) | (refine gL ?_; refine p_val rfl (g_ldI (i := k) rfl (ownS_rd h (.there .here)) (by omega) (by omega)) ?_; rw [hq]) | (refine gO ?_; first | refine p_val rfl (gives_pure rfl) ?_ | (refine gB .add ?_; first | refine p_val rfl (g_add_i rfl rfl (by omega) (by omega)) ?_ | refine p_val rfl (g_add_u rfl rfl (by omega) (by omega)) ?_) | (refine gB _ ?_; first | refine p_cmp_t rfl rfl rfl rfl (by first | exact rfl | (simp only [cmpProp]; omega) | decide) ?_ | refine p_cmp_f rfl rfl rfl rfl (by first | exact rfl | (simp only [cmpProp]; omega) | decide) ?_ | (refine p_cmp rfl rfl rfl rfl (fun hc => ?_) (fun hc => ?_) <;> simp only [cmpProp] at hc)) | (refine gL ?_; first | refine p_val rfl (g_ld rfl (h.cell (by repeat first | exact .here | apply Has.there) (by exact rfl))) ?_ | refine p_val rfl (g_lda rfl rfl (h.at (by repeat first | exact .here | apply Has.there))) ?_) | refine p_val rfl (g_idx rfl rfl (by omega) (by omega)) ?_) | refine x_nil ?_ | (refine gX ?_; first | refine x_seq ?_ | refine x_ops ?_ | refine x_cond_t rfl ?_ | refine x_cond_f rfl ?_ | refine x_block ?_ | refine x_skip ?_ | refine x_exit rfl ?_) | refine x_blk ?_)
            refine p_call rfl rfl (epoch_Table_Leave_spec q h) ?_
            rintro _ w ⟨rfl, h⟩
            obtain ⟨n1, n2, n3, n4⟩ := next 0 (.inl rfl) true 7 rfl
            repeat' (first | (refine gO ?_; refine p_skip rfl ?_) | (refine gO ?_; first | refine p_val rfl (gives_pure rfl) ?_ | (refine gB .add ?_; first | refine p_val rfl (g_add_i rfl rfl (by omega) (by omega)) ?_ | refine p_val rfl (g_add_u rfl rfl (by omega) (by omega)) ?_) | (refine gB _ ?_; first | refine p_cmp_t rfl rfl rfl rfl (by first | exact rfl | (simp only [cmpProp]; omega) | decide) ?_ | refine p_cmp_f rfl rfl rfl rfl (by first | exact rfl | (simp only [cmpProp]; omega) | decide) ?_ | (refine p_cmp rfl rfl rfl rfl (fun hc => ?_) (fun hc => ?_) <;> simp only [cmpProp] at hc)) | (refine gL ?_; first | refine p_val rfl (g_ld rfl (h.cell (by repeat first | exact .here | apply Has.there) (by exact rfl))) ?_ | refine p_val rfl (g_lda rfl rfl (h.at (by repeat first | exact .here | apply Has.there))) ?_) | refine p_val rfl (g_idx rfl rfl (by omega) (by omega)) ?_) | refine x_nil ?_ | (refine gX ?_; first | refine x_seq ?_ | refine x_ops ?_ | refine x_cond_t rfl ?_ | refine x_cond_f rfl ?_ | refine x_block ?_ | refine x_skip ?_ | refine x_exit rfl ?_) | refine x_blk ?_)
            exact x_keep [2, 7, 10, 12, 13] rfl (ihk _ _ _ (by omega) ⟨k + 1, _, rfl, by omega, n1, n2, n3, n4, rfl, h.pick (.there .here)⟩)
        · repeat' (first | (refine gO ?_; refine p_skip rfl ?_) | (refine gL ?_; refine p_val rfl (g_ldI (i := k) rfl (ownS_rd h (.there .here)) (by omega) (by omega)) ?_; rw [hq]) | (refine gO ?_; first | refine p_val rfl (gives_pure rfl) ?_ | (refine gB .add ?_; first | refine p_val rfl (g_add_i rfl rfl (by omega) (by omega)) ?_ | refine p_val rfl (g_add_u rfl rfl (by omega) (by omega)) ?_) | (refine gB _ ?_; first | refine p_cmp_t rfl rfl rfl rfl (by first | exact rfl | (simp only [cmpProp]; omega) | decide) ?_ | refine p_cmp_f rfl rfl rfl rfl (by first | exact rfl | (simp only [cmpProp]; omega) | decide) ?_ | (refine p_cmp rfl rfl rfl rfl (fun hc => ?_) (fun hc => ?_) <;> simp only [cmpProp] at hc)) | (refine gL ?_; first | refine p_val rfl (g_ld rfl (h.cell (by repeat first | exact .here | apply Has.there) (by exact rfl))) ?_ | refine p_val rfl (g_lda rfl rfl (h.at (by repeat first | exact .here | apply Has.there))) ?_) | refine p_val rfl (g_idx rfl rfl (by omega) (by omega)) ?_) | refine x_nil ?_ | (refine gX ?_; first | refine x_seq ?_ | refine x_ops ?_ | refine x_cond_t rfl ?_ | refine x_cond_f rfl ?_ | refine x_block ?_ | refine x_skip ?_ | refine x_exit rfl ?_) | refine x_blk ?_)
          refine p_call rfl rfl (epoch_Table_Refresh_spec q h) ?_
          rintro _ w ⟨rfl, h⟩
          rw [hi1] at h
          obtain ⟨n1, n2, n3, n4⟩ := next (t.now + 1) (.inr rfl) true 7 rfl
          repeat' (first | (refine gO ?_; refine p_skip rfl ?_) | (refine gO ?_; first | refine p_val rfl (gives_pure rfl) ?_ | (refine gB .add ?_; first | refine p_val rfl (g_add_i rfl rfl (by omega) (by omega)) ?_ | refine p_val rfl (g_add_u rfl rfl (by omega) (by omega)) ?_) | (refine gB _ ?_; first | refine p_cmp_t rfl rfl rfl rfl (by first | exact rfl | (simp only [cmpProp]; omega) | decide) ?_ | refine p_cmp_f rfl rfl rfl rfl (by first | exact rfl | (simp only [cmpProp]; omega) | decide) ?_ | (refine p_cmp rfl rfl rfl rfl (fun hc => ?_) (fun hc => ?_) <;> simp only [cmpProp] at hc)) | (refine gL ?_; first | refine p_val rfl (g_ld rfl (h.cell (by repeat first | exact .here | apply Has.there) (by exact rfl))) ?_ | refine p_val rfl (g_lda rfl rfl (h.at (by repeat first | exact .here | apply Has.there))) ?_) | refine p_val rfl (g_idx rfl rfl (by omega) (by omega)) ?_) | refine x_nil ?_ | (refine gX ?_; first | refine x_seq ?_ | refine x_ops ?_ | refine x_cond_t rfl ?_ | refine x_cond_f rfl ?_ | refine x_block ?_ | refine x_skip ?_ | refine x_exit rfl ?_) | refine x_blk ?_)
          exact x_keep [2, 7, 10, 12, 13] rfl (ihk _ _ _ (by omega) ⟨k + 1, _, rfl, by omega, n1, n2, n3, n4, rfl, h.pick (.there .here)⟩)
      · have hend : safeT t2 = t.now := by
          have hd : L.drop k = [] := List.drop_eq_nil_of_le (by omega)
          rcases f3 with f3 | ⟨q, hq, f3⟩
          · omega
          · have hp := (inT_mem.1 hq).2
            rcases hi4 q (by rw [hd]; simp) with hz | hz <;> omega
        repeat' (first | (refine gO ?_; refine p_skip rfl ?_) | (refine gO ?_; first | refine p_val rfl (gives_pure rfl) ?_ | (refine gB .add ?_; first | refine p_val rfl (g_add_i rfl rfl (by omega) (by omega)) ?_ | refine p_val rfl (g_add_u rfl rfl (by omega) (by omega)) ?_) | (refine gB _ ?_; first | refine p_cmp_t rfl rfl rfl rfl (by first | exact rfl | (simp only [cmpProp]; omega) | decide) ?_ | refine p_cmp_f rfl rfl rfl rfl (by first | exact rfl | (simp only [cmpProp]; omega) | decide) ?_ | (refine p_cmp rfl rfl rfl rfl (fun hc => ?_) (fun hc => ?_) <;> simp only [cmpProp] at hc)) | (refine gL ?_; first | refine p_val rfl (g_ld rfl (h.cell (by repeat first | exact .here | apply Has.there) (by exact rfl))) ?_ | refine p_val rfl (g_lda rfl rfl (h.at (by repeat first | exact .here | apply Has.there))) ?_) | refine p_val rfl (g_idx rfl rfl (by omega) (by omega)) ?_) | refine x_nil ?_ | (refine gX ?_; first | refine x_seq ?_ | refine x_ops ?_ | refine x_cond_t rfl ?_ | refine x_cond_f rfl ?_ | refine x_block ?_ | refine x_skip ?_ | refine x_exit rfl ?_) | refine x_blk ?_)
        refine p_call rfl rfl (epoch_Table_Safe_spec (h.pick (.there .here))) ?_
        rw [hend]
        rintro _ w ⟨rfl, h⟩
        repeat' (first | (refine gO ?_; refine p_skip rfl ?_) | (refine gO ?_; first | refine p_val rfl (gives_pure rfl) ?_ | (refine gB .add ?_; first | refine p_val rfl (g_add_i rfl rfl (by omega) (by omega)) ?_ | refine p_val rfl (g_add_u rfl rfl (by omega) (by omega)) ?_) | (refine gB _ ?_; first | refine p_cmp_t rfl rfl rfl rfl (by first | exact rfl | (simp only [cmpProp]; omega) | decide) ?_ | refine p_cmp_f rfl rfl rfl rfl (by first | exact rfl | (simp only [cmpProp]; omega) | decide) ?_ | (refine p_cmp rfl rfl rfl rfl (fun hc => ?_) (fun hc => ?_) <;> simp only [cmpProp] at hc)) | (refine gL ?_; first | refine p_val rfl (g_ld rfl (h.cell (by repeat first | exact .here | apply Has.there) (by exact rfl))) ?_ | refine p_val rfl (g_lda rfl rfl (h.at (by repeat first | exact .here | apply Has.there))) ?_) | refine p_val rfl (g_idx rfl rfl (by omega) (by omega)) ?_) | refine x_nil ?_ | (refine gX ?_; first | refine x_seq ?_ | refine x_ops ?_ | refine x_cond_t rfl ?_ | refine x_cond_f rfl ?_ | refine x_block ?_ | refine x_skip ?_ | refine x_exit rfl ?_) | refine x_blk ?_)
        exact x_ret' is_law06_EpochComes rfl ⟨rfl, h.nil⟩
end
theorem EpochNil_law (a0 : Int) (W : World) (_w0 : (Lit.int .i64 a0).wf = true) : Ret Try.prog F.law06_EpochNil #[.int .i64 a0] W (fun v w' => v = .bool true ∧ Sat ⟨W.heap.size, W⟩ w' []) :=
  law06_EpochNil_spec a0 (Sat.begin W)
abbrev act6Ty : Ty := .st (.pair (.int .i64) (.pair (.int .i64) .unit))
theorem arg_act6 {W : World} {cs : List Value} (h : Arg W act6Ty cs) : ∃ a : Act6, cs = act6C a ∧ True := by
  obtain ⟨_, _, rfl, ⟨k, rfl, _⟩, _, _, rfl, ⟨s, rfl, _⟩, h⟩ := h
  obtain rfl : _ = [] := h
  exact ⟨⟨k, s⟩, rfl, trivial⟩
theorem EpochRises_law (a0 : Int) (a1 : Option Addr) (len1 cap1 : Nat) (W : World) (_w0 : (Lit.int .i64 a0).wf = true) (w1 : Arg W (.sl act6Ty) [.slice a1 len1 cap1]) :
    Ret Try.prog F.law06_EpochRises #[.int .i64 a0, .slice a1 len1 cap1] W (fun v w' => v = .bool true ∧ Sat ⟨W.heap.size, W⟩ w' []) := by
  obtain ⟨a, len, cap, els, he, _, _, hr, hall⟩ := w1
  simp at he
  obtain ⟨rfl, rfl, rfl⟩ := he
  obtain ⟨l, rfl, _, _⟩ := list_of (f := act6C) (p := fun _ => True) (fun c hc => arg_act6 (hall c hc))
  exact law06_EpochRises_spec a0 l (fun G w h => hr.later h) (Sat.begin W)
theorem EpochComes_law (a0 : Int) (a1 : Option Addr) (len1 cap1 : Nat) (a2 : Option Addr) (len2 cap2 : Nat) (W : World) (_w0 : (Lit.int .i64 a0).wf = true) (w1 : Arg W (.sl act6Ty) [.slice a1 len1 cap1]) (w2 : Arg W (.sl .bool) [.slice a2 len2 cap2]) :
    Ret Try.prog F.law06_EpochComes #[.int .i64 a0, .slice a1 len1 cap1, .slice a2 len2 cap2] W (fun v w' => v = .bool true ∧ Sat ⟨W.heap.size, W⟩ w' []) := by
  obtain ⟨a, len, cap, els, he, _, _, hr, hall⟩ := w1
  simp at he
  obtain ⟨rfl, rfl, rfl⟩ := he
  obtain ⟨l, rfl, _, _⟩ := list_of (f := act6C) (p := fun _ => True) (fun c hc => arg_act6 (hall c hc))
  obtain ⟨a, len, cap, els, he, _, _, hr2, hall2⟩ := w2
  simp at he
  obtain ⟨rfl, rfl, rfl⟩ := he
  obtain ⟨bs, rfl, _, _⟩ := list_of (f := bool6C) (p := fun _ => True) (fun c hc => by
    obtain ⟨b, rfl⟩ := hall2 c hc
    exact ⟨b, rfl, trivial⟩)
  exact law06_EpochComes_spec a0 l bs (fun G w h => hr.later h) (fun G w h => hr2.later h) (Sat.begin W)
end Go.Proofs.Ytdefhoaaeofapaa
