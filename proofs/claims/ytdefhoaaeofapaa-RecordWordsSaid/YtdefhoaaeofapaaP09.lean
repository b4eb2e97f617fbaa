/- Layer 9 (record): what each function computes. -/
import Derived.Test.YtdefhoaaeofapaaP08h
import Derived.Test.YtdefhoaaeofapaaP01s
namespace Go.Proofs.Ytdefhoaaeofapaa
open Go Go.HX
attribute [local irreducible] Ret XRun XOps XDr XOne Does Gives
set_option maxRecDepth 4000
set_option maxHeartbeats 1000000
/-- A record: its header's parts, its texts. -/
structure RecM where
  p : Int
  t : Bool
  i : Bool
  key : ByteArray
  val : ByteArray
def recC (r : RecM) : List Value := [.int .u64 r.p, .bool r.t, .bool r.i, .string r.key, .string r.val]
def rightV (r : RecM) : Int := if (packV r.p r.t r.i).2 ≠ 0 ∨ r.key = ⟨#[]⟩ ∨ (r.t = true ∧ r.val ≠ ⟨#[]⟩) then 1 else (lengthsV r.key.size r.val.size).2
@[irreducible] def sizeV (k v : Int) : Int := if (lengthsV k v).2 ≠ 0 then 0 else 3 + (k + 7) / 8 + (v + 7) / 8
theorem lengths_bad {k v : Int} : (lengthsV k v).2 ≠ 0 ↔ (k < 0 ∨ v < 0 ∨ 64 < k ∨ 128 < v) := by
  unfold lengthsV
  split
  · simp; omega
  · split
    · simp; omega
    · simp; omega
theorem g_ldpre {P : Program} {N : Nat} {x : Operand} {e : Env} {w : World} {b n : Nat} {c : Array Value} {vs : List Value} {E : TypeId} {fr : Nat × Nat} (hx : Env.val e x = some (.pointer (some ⟨b, 0, none⟩))) (hn : vs.length = n) (hc : w.heap[b]? = some (.cells c E fr)) (hv : ∀ j u, vs[j]? = some u → c[0 + j]? = some u) : Gives P N (.ld x (some n)) e w (.agg vs.toArray) :=
  g_ldn hx hn (fun j u hj => cell_of_heap hc (hv j u hj))
section
variable {S : SP} {w : World} {G : List HProp}

theorem record_words_spec (n : Int) (h0 : 0 ≤ n) (h1 : n ≤ 1000) (h : Sat S w G) : Ret Try.prog F.record_words #[.int .i64 n] w (fun v w' => v = .int .i64 ((n + 7) / 8) ∧ Sat S w' G) := by
  refine ret_of is_record_words rfl ?_
  repeat' (first | (refine gO ?_; first | refine p_val rfl (gives_pure rfl) ?_ | (refine gB .add ?_; first | refine p_val rfl (g_add_i rfl rfl (by omega) (by omega)) ?_ | refine p_val rfl (g_add_u rfl rfl (by omega) (by omega)) ?_) | (refine gB .sub ?_; first | refine p_val rfl (g_sub_i rfl rfl (by omega) (by omega)) ?_ | refine p_val rfl (g_sub_u rfl rfl (by omega) (by omega)) ?_) | (refine gB .quo ?_; first | refine p_val rfl (g_quo_i rfl rfl (by omega) (by omega) (by omega)) ?_ | refine p_val rfl (g_quo_u rfl rfl (by omega) (by omega) (by omega)) ?_)) | refine x_nil ?_ | (refine gX ?_; first | refine x_seq ?_ | refine x_ops ?_ | refine x_skip ?_))
  exact x_ret' is_record_words rfl ⟨by rw [show n + 7 = n + 8 - 1 by omega]; rfl, h⟩

theorem record_Size_spec (k v : Int) (h : Sat S w G) : Ret Try.prog F.record_Size #[.int .i64 k, .int .i64 v] w (fun r w' => r = .int .i64 (sizeV k v) ∧ Sat S w' G) := by
  refine ret_of is_record_Size rfl ?_
  repeat' (first | (refine gO ?_; first | refine p_val rfl (gives_pure rfl) ?_ | (refine gB .add ?_; first | refine p_val rfl (g_add_i rfl rfl (by omega) (by omega)) ?_ | refine p_val rfl (g_add_u rfl rfl (by omega) (by omega)) ?_) | (refine gB _ ?_; first | refine p_cmp_t rfl rfl rfl rfl (by first | exact rfl | (simp only [cmpProp]; omega) | decide) ?_ | refine p_cmp_f rfl rfl rfl rfl (by first | exact rfl | (simp only [cmpProp]; omega) | decide) ?_ | (refine p_cmp rfl rfl rfl rfl (fun hc => ?_) (fun hc => ?_) <;> simp only [cmpProp] at hc))) | refine x_nil ?_ | (refine gX ?_; first | refine x_seq ?_ | refine x_ops ?_ | refine x_cond_t rfl ?_ | refine x_cond_f rfl ?_ | refine x_skip ?_))
  refine p_call rfl rfl (header_Lengths_spec k v h) ?_
  rintro _ w ⟨rfl, h⟩
  have hb := lengths_bad (k := k) (v := v)
  have hz : sizeV k v = if (lengthsV k v).2 ≠ 0 then 0 else 3 + (k + 7) / 8 + (v + 7) / 8 := by rw [sizeV]
  generalize lengthsV k v = q at *
  obtain ⟨a, z⟩ := q
  simp only at hb hz
  by_cases hq : z = 0
  · rw [if_neg (by omega)] at hz
    rw [hz]
    subst hq
    have hb : ¬ (k < 0 ∨ v < 0 ∨ 64 < k ∨ 128 < v) := fun hx => hb.2 hx rfl
    repeat' (first | (refine gO ?_; first | refine p_val rfl (gives_pure rfl) ?_ | (refine gB .add ?_; first | refine p_val rfl (g_add_i rfl rfl (by omega) (by omega)) ?_ | refine p_val rfl (g_add_u rfl rfl (by omega) (by omega)) ?_) | (refine gB _ ?_; first | refine p_cmp_t rfl rfl rfl rfl (by first | exact rfl | (simp only [cmpProp]; omega) | decide) ?_ | refine p_cmp_f rfl rfl rfl rfl (by first | exact rfl | (simp only [cmpProp]; omega) | decide) ?_ | (refine p_cmp rfl rfl rfl rfl (fun hc => ?_) (fun hc => ?_) <;> simp only [cmpProp] at hc))) | refine x_nil ?_ | (refine gX ?_; first | refine x_seq ?_ | refine x_ops ?_ | refine x_cond_t rfl ?_ | refine x_cond_f rfl ?_ | refine x_skip ?_))
    refine p_call rfl rfl (record_words_spec k (by omega) (by omega) h) ?_
    rintro _ w ⟨rfl, h⟩
    repeat' (first | (refine gO ?_; first | refine p_val rfl (gives_pure rfl) ?_ | (refine gB .add ?_; first | refine p_val rfl (g_add_i rfl rfl (by omega) (by omega)) ?_ | refine p_val rfl (g_add_u rfl rfl (by omega) (by omega)) ?_) | (refine gB _ ?_; first | refine p_cmp_t rfl rfl rfl rfl (by first | exact rfl | (simp only [cmpProp]; omega) | decide) ?_ | refine p_cmp_f rfl rfl rfl rfl (by first | exact rfl | (simp only [cmpProp]; omega) | decide) ?_ | (refine p_cmp rfl rfl rfl rfl (fun hc => ?_) (fun hc => ?_) <;> simp only [cmpProp] at hc))) | refine x_nil ?_ | (refine gX ?_; first | refine x_seq ?_ | refine x_ops ?_ | refine x_cond_t rfl ?_ | refine x_cond_f rfl ?_ | refine x_skip ?_))
    refine p_call rfl rfl (record_words_spec v (by omega) (by omega) h) ?_
    rintro _ w ⟨rfl, h⟩
    repeat' (first | (refine gO ?_; first | refine p_val rfl (gives_pure rfl) ?_ | (refine gB .add ?_; first | refine p_val rfl (g_add_i rfl rfl (by omega) (by omega)) ?_ | refine p_val rfl (g_add_u rfl rfl (by omega) (by omega)) ?_) | (refine gB _ ?_; first | refine p_cmp_t rfl rfl rfl rfl (by first | exact rfl | (simp only [cmpProp]; omega) | decide) ?_ | refine p_cmp_f rfl rfl rfl rfl (by first | exact rfl | (simp only [cmpProp]; omega) | decide) ?_ | (refine p_cmp rfl rfl rfl rfl (fun hc => ?_) (fun hc => ?_) <;> simp only [cmpProp] at hc))) | refine x_nil ?_ | (refine gX ?_; first | refine x_seq ?_ | refine x_ops ?_ | refine x_cond_t rfl ?_ | refine x_cond_f rfl ?_ | refine x_skip ?_))
    exact x_ret' is_record_Size rfl ⟨rfl, h⟩
  · rw [if_pos hq] at hz
    rw [hz]
    repeat' (first | (refine gO ?_; first | refine p_val rfl (gives_pure rfl) ?_ | (refine gB .add ?_; first | refine p_val rfl (g_add_i rfl rfl (by omega) (by omega)) ?_ | refine p_val rfl (g_add_u rfl rfl (by omega) (by omega)) ?_) | (refine gB _ ?_; first | refine p_cmp_t rfl rfl rfl rfl (by first | exact rfl | (simp only [cmpProp]; omega) | decide) ?_ | refine p_cmp_f rfl rfl rfl rfl (by first | exact rfl | (simp only [cmpProp]; omega) | decide) ?_ | (refine p_cmp rfl rfl rfl rfl (fun hc => ?_) (fun hc => ?_) <;> simp only [cmpProp] at hc))) | refine x_nil ?_ | (refine gX ?_; first | refine x_seq ?_ | refine x_ops ?_ | refine x_cond_t rfl ?_ | refine x_cond_f rfl ?_ | refine x_skip ?_))
    all_goals first | (exfalso; omega) | exact x_ret' is_record_Size rfl ⟨rfl, h⟩

theorem record_ValueAt_spec (k : Int) (h : Sat S w G) : Ret Try.prog F.record_ValueAt #[.int .i64 k] w (fun r w' => r = .int .i64 (sizeV k 0) ∧ Sat S w' G) := by
  refine ret_of is_record_ValueAt rfl ?_
  repeat' (first | (refine gO ?_; first | refine p_val rfl (gives_pure rfl) ?_ | (refine gB .add ?_; first | refine p_val rfl (g_add_i rfl rfl (by omega) (by omega)) ?_ | refine p_val rfl (g_add_u rfl rfl (by omega) (by omega)) ?_) | (refine gB _ ?_; first | refine p_cmp_t rfl rfl rfl rfl (by first | exact rfl | (simp only [cmpProp]; omega) | decide) ?_ | refine p_cmp_f rfl rfl rfl rfl (by first | exact rfl | (simp only [cmpProp]; omega) | decide) ?_ | (refine p_cmp rfl rfl rfl rfl (fun hc => ?_) (fun hc => ?_) <;> simp only [cmpProp] at hc))) | refine x_nil ?_ | (refine gX ?_; first | refine x_seq ?_ | refine x_ops ?_ | refine x_cond_t rfl ?_ | refine x_cond_f rfl ?_ | refine x_skip ?_))
  refine p_call rfl rfl (header_Lengths_spec k 0 h) ?_
  rintro _ w ⟨rfl, h⟩
  have hb := lengths_bad (k := k) (v := 0)
  have hz : sizeV k 0 = if (lengthsV k 0).2 ≠ 0 then 0 else 3 + (k + 7) / 8 + (0 + 7) / 8 := by rw [sizeV]
  generalize lengthsV k 0 = q at *
  obtain ⟨a, z⟩ := q
  simp only at hb hz
  by_cases hq : z = 0
  · rw [if_neg (by omega)] at hz
    have hz' : sizeV k 0 = 3 + (k + 7) / 8 := by omega
    rw [hz']
    subst hq
    have hb : ¬ (k < 0 ∨ (0 : Int) < 0 ∨ 64 < k ∨ (128 : Int) < 0) := fun hx => hb.2 hx rfl
    repeat' (first | (refine gO ?_; first | refine p_val rfl (gives_pure rfl) ?_ | (refine gB .add ?_; first | refine p_val rfl (g_add_i rfl rfl (by omega) (by omega)) ?_ | refine p_val rfl (g_add_u rfl rfl (by omega) (by omega)) ?_) | (refine gB _ ?_; first | refine p_cmp_t rfl rfl rfl rfl (by first | exact rfl | (simp only [cmpProp]; omega) | decide) ?_ | refine p_cmp_f rfl rfl rfl rfl (by first | exact rfl | (simp only [cmpProp]; omega) | decide) ?_ | (refine p_cmp rfl rfl rfl rfl (fun hc => ?_) (fun hc => ?_) <;> simp only [cmpProp] at hc))) | refine x_nil ?_ | (refine gX ?_; first | refine x_seq ?_ | refine x_ops ?_ | refine x_cond_t rfl ?_ | refine x_cond_f rfl ?_ | refine x_skip ?_))
    refine p_call rfl rfl (record_words_spec k (by omega) (by omega) h) ?_
    rintro _ w ⟨rfl, h⟩
    repeat' (first | (refine gO ?_; first | refine p_val rfl (gives_pure rfl) ?_ | (refine gB .add ?_; first | refine p_val rfl (g_add_i rfl rfl (by omega) (by omega)) ?_ | refine p_val rfl (g_add_u rfl rfl (by omega) (by omega)) ?_) | (refine gB _ ?_; first | refine p_cmp_t rfl rfl rfl rfl (by first | exact rfl | (simp only [cmpProp]; omega) | decide) ?_ | refine p_cmp_f rfl rfl rfl rfl (by first | exact rfl | (simp only [cmpProp]; omega) | decide) ?_ | (refine p_cmp rfl rfl rfl rfl (fun hc => ?_) (fun hc => ?_) <;> simp only [cmpProp] at hc))) | refine x_nil ?_ | (refine gX ?_; first | refine x_seq ?_ | refine x_ops ?_ | refine x_cond_t rfl ?_ | refine x_cond_f rfl ?_ | refine x_skip ?_))
    exact x_ret' is_record_ValueAt rfl ⟨rfl, h⟩
  · rw [if_pos hq] at hz
    rw [hz]
    repeat' (first | (refine gO ?_; first | refine p_val rfl (gives_pure rfl) ?_ | (refine gB .add ?_; first | refine p_val rfl (g_add_i rfl rfl (by omega) (by omega)) ?_ | refine p_val rfl (g_add_u rfl rfl (by omega) (by omega)) ?_) | (refine gB _ ?_; first | refine p_cmp_t rfl rfl rfl rfl (by first | exact rfl | (simp only [cmpProp]; omega) | decide) ?_ | refine p_cmp_f rfl rfl rfl rfl (by first | exact rfl | (simp only [cmpProp]; omega) | decide) ?_ | (refine p_cmp rfl rfl rfl rfl (fun hc => ?_) (fun hc => ?_) <;> simp only [cmpProp] at hc))) | refine x_nil ?_ | (refine gX ?_; first | refine x_seq ?_ | refine x_ops ?_ | refine x_cond_t rfl ?_ | refine x_cond_f rfl ?_ | refine x_skip ?_))
    all_goals first | (exfalso; omega) | exact x_ret' is_record_ValueAt rfl ⟨rfl, h⟩

theorem ref09_Size_spec (k v : Int) (h : Sat S w G) : Ret Try.prog F.ref09_Size #[.int .i64 k, .int .i64 v] w (fun r w' => r = .int .i64 (sizeV k v) ∧ Sat S w' G) := by
  refine ret_of is_ref09_Size rfl ?_
  have hb := lengths_bad (k := k) (v := v)
  have hz : sizeV k v = if (lengthsV k v).2 ≠ 0 then 0 else 3 + (k + 7) / 8 + (v + 7) / 8 := by rw [sizeV]
  by_cases hq : (k < 0 ∨ v < 0 ∨ 64 < k ∨ 128 < v)
  · rw [if_pos (hb.2 hq)] at hz
    rw [hz]
    repeat' (first | (refine gO ?_; refine p_skip rfl ?_) | (refine gO ?_; first | refine p_val rfl (gives_pure rfl) ?_ | (refine gB .add ?_; first | refine p_val rfl (g_add_i rfl rfl (by omega) (by omega)) ?_ | refine p_val rfl (g_add_u rfl rfl (by omega) (by omega)) ?_) | (refine gB .quo ?_; first | refine p_val rfl (g_quo_i rfl rfl (by omega) (by omega) (by omega)) ?_ | refine p_val rfl (g_quo_u rfl rfl (by omega) (by omega) (by omega)) ?_) | (refine gB _ ?_; first | refine p_cmp_t rfl rfl rfl rfl (by first | exact rfl | (simp only [cmpProp]; omega) | decide) ?_ | refine p_cmp_f rfl rfl rfl rfl (by first | exact rfl | (simp only [cmpProp]; omega) | decide) ?_ | (refine p_cmp rfl rfl rfl rfl (fun hc => ?_) (fun hc => ?_) <;> simp only [cmpProp] at hc))) | refine x_nil ?_ | (refine gX ?_; first | refine x_seq ?_ | refine x_ops ?_ | refine x_cond_t rfl ?_ | refine x_cond_f rfl ?_ | refine x_skip ?_))
    all_goals first | (exfalso; omega) | exact x_ret' is_ref09_Size rfl ⟨rfl, h⟩
  · rw [if_neg (fun hx => hq (hb.1 hx))] at hz
    rw [hz]
    repeat' (first | (refine gO ?_; refine p_skip rfl ?_) | (refine gO ?_; first | refine p_val rfl (gives_pure rfl) ?_ | (refine gB .add ?_; first | refine p_val rfl (g_add_i rfl rfl (by omega) (by omega)) ?_ | refine p_val rfl (g_add_u rfl rfl (by omega) (by omega)) ?_) | (refine gB .quo ?_; first | refine p_val rfl (g_quo_i rfl rfl (by omega) (by omega) (by omega)) ?_ | refine p_val rfl (g_quo_u rfl rfl (by omega) (by omega) (by omega)) ?_) | (refine gB _ ?_; first | refine p_cmp_t rfl rfl rfl rfl (by first | exact rfl | (simp only [cmpProp]; omega) | decide) ?_ | refine p_cmp_f rfl rfl rfl rfl (by first | exact rfl | (simp only [cmpProp]; omega) | decide) ?_ | (refine p_cmp rfl rfl rfl rfl (fun hc => ?_) (fun hc => ?_) <;> simp only [cmpProp] at hc))) | refine x_nil ?_ | (refine gX ?_; first | refine x_seq ?_ | refine x_ops ?_ | refine x_cond_t rfl ?_ | refine x_cond_f rfl ?_ | refine x_skip ?_))
    all_goals first | (exfalso; omega) | exact x_ret' is_ref09_Size rfl ⟨rfl, h⟩

set_option maxHeartbeats 3000000 in
theorem record_Right_spec (r : RecM) (p0 : 0 ≤ r.p) (hk : r.key.size ≤ 140737488355328) (hv : r.val.size ≤ 140737488355328) (h : Sat S w G) :
    Ret Try.prog F.record_Right #[.agg (recC r).toArray] w (fun v w' => v = .int .i64 (rightV r) ∧ Sat S w' G) := by
  obtain ⟨p, t, i, key, val⟩ := r
  simp only at p0 hk hv
  refine ret_of is_record_Right rfl ?_
  repeat' (first | (refine gO ?_; refine p_skip rfl ?_) | (refine gO ?_; first | refine p_val rfl (gives_pure rfl) ?_ | (refine gB _ ?_; first | refine p_cmp_t rfl rfl rfl rfl (by first | exact rfl | (simp only [cmpProp]; omega) | decide) ?_ | refine p_cmp_f rfl rfl rfl rfl (by first | exact rfl | (simp only [cmpProp]; omega) | decide) ?_ | (refine p_cmp rfl rfl rfl rfl (fun hc => ?_) (fun hc => ?_) <;> simp only [cmpProp] at hc)) | (refine gL ?_; first | refine p_val rfl (g_ld rfl (h.cell (by repeat first | exact .here | apply Has.there) (by exact rfl))) ?_ | refine p_val rfl (g_lda rfl rfl (h.at (by repeat first | exact .here | apply Has.there))) ?_)) | refine x_nil ?_ | (refine gX ?_; first | refine x_seq ?_ | refine x_ops ?_ | refine x_cond_t rfl ?_ | refine x_cond_f rfl ?_ | refine x_skip ?_))
  refine p_do rfl (d_box rfl h) ?_
  rintro _ w ⟨b1, rfl, h⟩
  have h : Sat S w (pt b1 (.cells #[.int .u64 p, .bool t, .bool i, .string key, .string val] T.api_Record (0, 0)) :: _) := h
  repeat' (first | (refine gO ?_; refine p_skip rfl ?_) | (refine p_val rfl (g_ldpre (vs := [.int .u64 p, .bool t, .bool i]) rfl rfl (h.at .here) (fun j u hj => by rcases j with _ | _ | _ | j <;> first | exact hj | exact absurd hj (by simp))) ?_) | (refine gO ?_; first | refine p_val rfl (gives_pure rfl) ?_ | (refine gB _ ?_; first | refine p_cmp_t rfl rfl rfl rfl (by first | exact rfl | (simp only [cmpProp]; omega) | decide) ?_ | refine p_cmp_f rfl rfl rfl rfl (by first | exact rfl | (simp only [cmpProp]; omega) | decide) ?_ | (refine p_cmp rfl rfl rfl rfl (fun hc => ?_) (fun hc => ?_) <;> simp only [cmpProp] at hc)) | (refine gL ?_; first | refine p_val rfl (g_ld rfl (h.cell (by repeat first | exact .here | apply Has.there) (by exact rfl))) ?_ | refine p_val rfl (g_lda rfl rfl (h.at (by repeat first | exact .here | apply Has.there))) ?_)) | refine x_nil ?_ | (refine gX ?_; first | refine x_seq ?_ | refine x_ops ?_ | refine x_cond_t rfl ?_ | refine x_cond_f rfl ?_ | refine x_skip ?_))
  refine p_call rfl rfl (header_Pack_spec p t i p0 h) ?_
  rintro _ w ⟨rfl, h⟩
  have hz : rightV ⟨p, t, i, key, val⟩ = if (packV p t i).2 ≠ 0 ∨ key = ⟨#[]⟩ ∨ (t = true ∧ val ≠ ⟨#[]⟩) then 1 else (lengthsV key.size val.size).2 := rfl
  rw [hz]
  clear hz
  generalize packV p t i = q at *
  obtain ⟨a, z⟩ := q
  simp only
  cases t
  · repeat' (first | (refine gO ?_; refine p_skip rfl ?_) | (refine gB .eql ?_; refine p_seq rfl rfl rfl (fun hk => ?_) (fun hk => ?_)) | (refine gO ?_; first | refine p_val rfl (gives_pure rfl) ?_ | (refine gB _ ?_; first | refine p_cmp_t rfl rfl rfl rfl (by first | exact rfl | (simp only [cmpProp]; omega) | decide) ?_ | refine p_cmp_f rfl rfl rfl rfl (by first | exact rfl | (simp only [cmpProp]; omega) | decide) ?_ | (refine p_cmp rfl rfl rfl rfl (fun hc => ?_) (fun hc => ?_) <;> simp only [cmpProp] at hc)) | (refine gL ?_; first | refine p_val rfl (g_ld rfl (h.cell (by repeat first | exact .here | apply Has.there) (by exact rfl))) ?_ | refine p_val rfl (g_lda rfl rfl (h.at (by repeat first | exact .here | apply Has.there))) ?_)) | refine x_nil ?_ | (refine gX ?_; first | refine x_seq ?_ | refine x_ops ?_ | refine x_cond_t rfl ?_ | refine x_cond_f rfl ?_ | refine x_skip ?_))
    all_goals first | (exact x_ret' is_record_Right rfl ⟨by rw [if_pos (by first | exact .inl (by assumption) | exact .inr (.inl (by assumption)))]; rfl, h.drop⟩) | skip
    refine p_call rfl rfl (header_Lengths_spec key.size val.size h) ?_
    rintro _ w ⟨rfl, h⟩
    rw [if_neg (by simp_all)]
    repeat' (first | (refine gO ?_; refine p_skip rfl ?_) | (refine gO ?_; first | refine p_val rfl (gives_pure rfl) ?_ | (refine gB _ ?_; first | refine p_cmp_t rfl rfl rfl rfl (by first | exact rfl | (simp only [cmpProp]; omega) | decide) ?_ | refine p_cmp_f rfl rfl rfl rfl (by first | exact rfl | (simp only [cmpProp]; omega) | decide) ?_ | (refine p_cmp rfl rfl rfl rfl (fun hc => ?_) (fun hc => ?_) <;> simp only [cmpProp] at hc)) | (refine gL ?_; first | refine p_val rfl (g_ld rfl (h.cell (by repeat first | exact .here | apply Has.there) (by exact rfl))) ?_ | refine p_val rfl (g_lda rfl rfl (h.at (by repeat first | exact .here | apply Has.there))) ?_)) | refine x_nil ?_ | (refine gX ?_; first | refine x_seq ?_ | refine x_ops ?_ | refine x_cond_t rfl ?_ | refine x_cond_f rfl ?_ | refine x_skip ?_))
    exact x_ret' is_record_Right rfl ⟨rfl, h.drop⟩
  · repeat' (first | (refine gO ?_; refine p_skip rfl ?_) | (refine gB .eql ?_; refine p_seq rfl rfl rfl (fun hk => ?_) (fun hk => ?_)) | (refine gB .neq ?_; refine p_sne rfl rfl rfl (fun hv => ?_) (fun hv => ?_)) | (refine gO ?_; first | refine p_val rfl (gives_pure rfl) ?_ | (refine gB _ ?_; first | refine p_cmp_t rfl rfl rfl rfl (by first | exact rfl | (simp only [cmpProp]; omega) | decide) ?_ | refine p_cmp_f rfl rfl rfl rfl (by first | exact rfl | (simp only [cmpProp]; omega) | decide) ?_ | (refine p_cmp rfl rfl rfl rfl (fun hc => ?_) (fun hc => ?_) <;> simp only [cmpProp] at hc)) | (refine gL ?_; first | refine p_val rfl (g_ld rfl (h.cell (by repeat first | exact .here | apply Has.there) (by exact rfl))) ?_ | refine p_val rfl (g_lda rfl rfl (h.at (by repeat first | exact .here | apply Has.there))) ?_)) | refine x_nil ?_ | (refine gX ?_; first | refine x_seq ?_ | refine x_ops ?_ | refine x_cond_t rfl ?_ | refine x_cond_f rfl ?_ | refine x_skip ?_))
    all_goals first | (exact x_ret' is_record_Right rfl ⟨by rw [if_pos (by first | exact .inl (by assumption) | exact .inr (.inl (by assumption)) | exact .inr (.inr ⟨rfl, by assumption⟩))]; rfl, h.drop⟩) | skip
    refine p_call rfl rfl (header_Lengths_spec key.size val.size h) ?_
    rintro _ w ⟨rfl, h⟩
    rw [if_neg (by simp_all)]
    repeat' (first | (refine gO ?_; refine p_skip rfl ?_) | (refine gO ?_; first | refine p_val rfl (gives_pure rfl) ?_ | (refine gB _ ?_; first | refine p_cmp_t rfl rfl rfl rfl (by first | exact rfl | (simp only [cmpProp]; omega) | decide) ?_ | refine p_cmp_f rfl rfl rfl rfl (by first | exact rfl | (simp only [cmpProp]; omega) | decide) ?_ | (refine p_cmp rfl rfl rfl rfl (fun hc => ?_) (fun hc => ?_) <;> simp only [cmpProp] at hc)) | (refine gL ?_; first | refine p_val rfl (g_ld rfl (h.cell (by repeat first | exact .here | apply Has.there) (by exact rfl))) ?_ | refine p_val rfl (g_lda rfl rfl (h.at (by repeat first | exact .here | apply Has.there))) ?_)) | refine x_nil ?_ | (refine gX ?_; first | refine x_seq ?_ | refine x_ops ?_ | refine x_cond_t rfl ?_ | refine x_cond_f rfl ?_ | refine x_skip ?_))
    exact x_ret' is_record_Right rfl ⟨rfl, h.drop⟩
end
end Go.Proofs.Ytdefhoaaeofapaa
