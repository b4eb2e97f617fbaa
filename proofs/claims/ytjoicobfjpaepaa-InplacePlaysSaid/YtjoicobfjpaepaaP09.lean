/- Layer 9 (record): what each function computes. -/
import Derived.Test.YtjoicobfjpaepaaHxS
import Derived.Test.YtjoicobfjpaepaaP08h
import Derived.Test.YtjoicobfjpaepaaP01s
namespace Go.Proofs.Ytjoicobfjpaepaa
open Go Go.HX
attribute [local irreducible] Ret XRun XOps XDr XOne Does Gives
set_option maxRecDepth 4000
set_option maxHeartbeats 1000000
/-- A record: its header's parts, its texts. -/
structure RecM where
  p : Int
  t : Bool
  i : Bool
  key : ByteArray
  val : ByteArray
def recC (r : RecM) : List Value := [.int .u64 r.p, .bool r.t, .bool r.i, .string r.key, .string r.val]
def rightV (r : RecM) : Int := if (packV r.p r.t r.i).2 ≠ 0 ∨ r.key = ⟨#[]⟩ ∨ (r.t = true ∧ r.val ≠ ⟨#[]⟩) then 1 else (lengthsV r.key.size r.val.size).2
@[irreducible] def sizeV (k v : Int) : Int := if (lengthsV k v).2 ≠ 0 then 0 else 3 + (k + 7) / 8 + (v + 7) / 8
theorem lengths_bad {k v : Int} : (lengthsV k v).2 ≠ 0 ↔ (k < 0 ∨ v < 0 ∨ 64 < k ∨ 128 < v) := by
  unfold lengthsV
  split
  · simp; omega
  · split
    · simp; omega
    · simp; omega
theorem g_ldpre {P : Program} {N : Nat} {x : Operand} {e : Env} {w : World} {b n : Nat} {c : Array Value} {vs : List Value} {E : TypeId} {fr : Nat × Nat} (hx : Env.val e x = some (.pointer (some ⟨b, 0, none⟩))) (hn : vs.length = n) (hc : w.heap[b]? = some (.cells c E fr)) (hv : ∀ j u, vs[j]? = some u → c[0 + j]? = some u) : Gives P N (.ld x (some n)) e w (.agg vs.toArray) :=
  g_ldn hx hn (fun j u hj => cell_of_heap hc (hv j u hj))
section
variable {S : SP} {w : World} {G : List HProp}

theorem record_words_spec (n : Int) (h0 : 0 ≤ n) (h1 : n ≤ 1000) (h : Sat S w G) : Ret Try.prog F.record_words #[.int .i64 n] w (fun v w' => v = .int .i64 ((n + 7) / 8) ∧ Sat S w' G) := by
  refine ret_of is_record_words rfl ?_
  repeat' (first | refine stPs ?_ | fail)
  exact x_ret' is_record_words rfl ⟨by rw [show n + 7 = n + 8 - 1 by omega]; rfl, h⟩

theorem record_Size_spec (k v : Int) (h : Sat S w G) : Ret Try.prog F.record_Size #[.int .i64 k, .int .i64 v] w (fun r w' => r = .int .i64 (sizeV k v) ∧ Sat S w' G) := by
  refine ret_of is_record_Size rfl ?_
  repeat' (first | refine stPs ?_ | (refine p_cmp rfl rfl rfl rfl (fun hc => ?_) (fun hc => ?_) <;> simp only [cmpProp] at hc) | fail)
  refine p_call rfl rfl (header_Lengths_spec k v h) ?_
  rintro _ w ⟨rfl, h⟩
  have hb := lengths_bad (k := k) (v := v)
  have hz : sizeV k v = if (lengthsV k v).2 ≠ 0 then 0 else 3 + (k + 7) / 8 + (v + 7) / 8 := by rw [sizeV]
  generalize lengthsV k v = q at *
  obtain ⟨a, z⟩ := q
  simp only at hb hz
  by_cases hq : z = 0
  · rw [if_neg (by omega)] at hz
    rw [hz]
    subst hq
    have hb : ¬ (k < 0 ∨ v < 0 ∨ 64 < k ∨ 128 < v) := fun hx => hb.2 hx rfl
    repeat' (first | refine stPs ?_ | (refine p_cmp rfl rfl rfl rfl (fun hc => ?_) (fun hc => ?_) <;> simp only [cmpProp] at hc) | fail)
    refine p_call rfl rfl (record_words_spec k (by omega) (by omega) h) ?_
    rintro _ w ⟨rfl, h⟩
    repeat' (first | refine stPs ?_ | (refine p_cmp rfl rfl rfl rfl (fun hc => ?_) (fun hc => ?_) <;> simp only [cmpProp] at hc) | fail)
    refine p_call rfl rfl (record_words_spec v (by omega) (by omega) h) ?_
    rintro _ w ⟨rfl, h⟩
    repeat' (first | refine stPs ?_ | (refine p_cmp rfl rfl rfl rfl (fun hc => ?_) (fun hc => ?_) <;> simp only [cmpProp] at hc) | fail)
    exact x_ret' is_record_Size rfl ⟨rfl, h⟩
  · rw [if_pos hq] at hz
    rw [hz]
    repeat' (first | refine stPs ?_ | (refine p_cmp rfl rfl rfl rfl (fun hc => ?_) (fun hc => ?_) <;> simp only [cmpProp] at hc) | fail)
    all_goals first | (exfalso; omega) | exact x_ret' is_record_Size rfl ⟨rfl, h⟩

theorem record_ValueAt_spec (k : Int) (h : Sat S w G) : Ret Try.prog F.record_ValueAt #[.int .i64 k] w (fun r w' => r = .int .i64 (sizeV k 0) ∧ Sat S w' G) := by
  refine ret_of is_record_ValueAt rfl ?_
  repeat' (first | refine stPs ?_ | (refine p_cmp rfl rfl rfl rfl (fun hc => ?_) (fun hc => ?_) <;> simp only [cmpProp] at hc) | fail)
  refine p_call rfl rfl (header_Lengths_spec k 0 h) ?_
  rintro _ w ⟨rfl, h⟩
  have hb := lengths_bad (k := k) (v := 0)
  have hz : sizeV k 0 = if (lengthsV k 0).2 ≠ 0 then 0 else 3 + (k + 7) / 8 + (0 + 7) / 8 := by rw [sizeV]
  generalize lengthsV k 0 = q at *
  obtain ⟨a, z⟩ := q
  simp only at hb hz
  by_cases hq : z = 0
  · rw [if_neg (by omega)] at hz
    have hz' : sizeV k 0 = 3 + (k + 7) / 8 := by omega
    rw [hz']
    subst hq
    have hb : ¬ (k < 0 ∨ (0 : Int) < 0 ∨ 64 < k ∨ (128 : Int) < 0) := fun hx => hb.2 hx rfl
    repeat' (first | refine stPs ?_ | (refine p_cmp rfl rfl rfl rfl (fun hc => ?_) (fun hc => ?_) <;> simp only [cmpProp] at hc) | fail)
    refine p_call rfl rfl (record_words_spec k (by omega) (by omega) h) ?_
    rintro _ w ⟨rfl, h⟩
    repeat' (first | refine stPs ?_ | (refine p_cmp rfl rfl rfl rfl (fun hc => ?_) (fun hc => ?_) <;> simp only [cmpProp] at hc) | fail)
    exact x_ret' is_record_ValueAt rfl ⟨rfl, h⟩
  · rw [if_pos hq] at hz
    rw [hz]
    repeat' (first | refine stPs ?_ | (refine p_cmp rfl rfl rfl rfl (fun hc => ?_) (fun hc => ?_) <;> simp only [cmpProp] at hc) | fail)
    all_goals first | (exfalso; omega) | exact x_ret' is_record_ValueAt rfl ⟨rfl, h⟩

theorem ref09_Size_spec (k v : Int) (h : Sat S w G) : Ret Try.prog F.ref09_Size #[.int .i64 k, .int .i64 v] w (fun r w' => r = .int .i64 (sizeV k v) ∧ Sat S w' G) := by
  refine ret_of is_ref09_Size rfl ?_
  have hb := lengths_bad (k := k) (v := v)
  have hz : sizeV k v = if (lengthsV k v).2 ≠ 0 then 0 else 3 + (k + 7) / 8 + (v + 7) / 8 := by rw [sizeV]
  by_cases hq : (k < 0 ∨ v < 0 ∨ 64 < k ∨ 128 < v)
  · rw [if_pos (hb.2 hq)] at hz
    rw [hz]
    repeat' (first | refine stPs ?_ | (refine p_cmp rfl rfl rfl rfl (fun hc => ?_) (fun hc => ?_) <;> simp only [cmpProp] at hc) | fail)
    all_goals first | (exfalso; omega) | exact x_ret' is_ref09_Size rfl ⟨rfl, h⟩
  · rw [if_neg (fun hx => hq (hb.1 hx))] at hz
    rw [hz]
    repeat' (first | refine stPs ?_ | (refine p_cmp rfl rfl rfl rfl (fun hc => ?_) (fun hc => ?_) <;> simp only [cmpProp] at hc) | fail)
    all_goals first | (exfalso; omega) | exact x_ret' is_ref09_Size rfl ⟨rfl, h⟩

end
end Go.Proofs.Ytjoicobfjpaepaa