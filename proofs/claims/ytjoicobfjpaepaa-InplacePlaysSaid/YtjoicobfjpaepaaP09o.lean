/- Layer 9 (record): a record is read from words; the document's answers. -/
import Derived.Test.YtjoicobfjpaepaaHxS
import Derived.Test.YtjoicobfjpaepaaP09w
import Derived.Test.YtjoicobfjpaepaaR08
namespace Go.Proofs.Ytjoicobfjpaepaa
open Go Go.HX
attribute [local irreducible] Ret XRun XOps XDr XOne Does Gives
set_option maxRecDepth 4000
set_option maxHeartbeats 1000000
def rec0 : RecM := ⟨0, false, false, ⟨#[]⟩, ⟨#[]⟩⟩
def keyZ (l : List Int) : Nat := (l.getD 2 0 % 65536).toNat
def valZ (l : List Int) : Nat := (l.getD 2 0 / 65536 % 65536).toNat
def keyW (l : List Int) : List Int := (l.take (3 + (keyZ l + 7) / 8)).drop 3
def recN (l : List Int) : Nat := 3 + (keyZ l + 7) / 8 + (valZ l + 7) / 8
def valW (l : List Int) : List Int := (l.take (recN l)).drop (3 + (keyZ l + 7) / 8)
/-- The record that words tell, if they tell one. -/
def recR (l : List Int) : RecM := ⟨l.getD 0 0 % 281474976710656, decide (l.getD 0 0 / 281474976710656 % 2 = 1), decide (2 ≤ l.getD 0 0 / 281474976710656), strOfNums (bytesZ (keyW l) (keyZ l)), strOfNums (bytesZ (valW l) (valZ l))⟩
def recP (l : List Int) : Prop := l.getD 0 0 < 1125899906842624 ∧ l.getD 1 0 < 4294967296 ∧ tailOk (keyW l) (keyZ l) ∧ tailOk (valW l) (valZ l) ∧ rightV (recR l) = 0
open Classical in
noncomputable def ofV (l : List Int) : RecM × Int × Int :=
  if l.length < 3 then (rec0, 0, 3) else if ¬ toldP (l.getD 2 0) then (rec0, 0, 4) else if l.length < recN l then (rec0, 0, 3) else if recP l then (recR l, recN l, 0) else (rec0, 0, 4)
theorem keyZ_int (l : List Int) : ((keyZ l : Nat) : Int) = l.getD 2 0 % 65536 := by unfold keyZ; omega
theorem valZ_int (l : List Int) : ((valZ l : Nat) : Int) = l.getD 2 0 / 65536 % 65536 := by unfold valZ; omega
theorem told_sizes {l : List Int} (h : toldP (l.getD 2 0)) : keyZ l ≤ 64 ∧ valZ l ≤ 128 := by
  have h1 := keyZ_int l
  have h2 := valZ_int l
  unfold toldP at h
  omega
theorem sizeV_of {k v : Nat} (hk : k ≤ 64) (hv : v ≤ 128) : sizeV k v = ((3 + (k + 7) / 8 + (v + 7) / 8 : Nat) : Int) := by
  unfold sizeV
  rw [if_neg (by rw [Classical.not_not]; by_cases h : (lengthsV k v).2 = 0
                 · exact h
                 · have := lengths_bad.1 h; omega)]
  omega
theorem fbytes_ok {l : List Int} {n : Nat} (hl : l.length = (n + 7) / 8) : fbytesV l n = (strOfNums (bytesZ l n), 0) := by
  rw [fbytesV, if_neg (by omega), if_neg (by omega), if_neg (by rw [Classical.not_not]; omega), Int.toNat_natCast]
theorem bool_dec {v : Value} {p : Prop} [Decidable p] (h : BoolIs v p) : v = .bool (decide p) := by
  rcases h with ⟨rfl, hp⟩ | ⟨rfl, hp⟩
  · rw [decide_eq_true hp]
  · rw [decide_eq_false hp]
theorem getD_bnd {l : List Int} (h : ∀ x ∈ l, 0 ≤ x ∧ x ≤ 18446744073709551615) (i : Nat) : 0 ≤ l.getD i 0 ∧ l.getD i 0 ≤ 18446744073709551615 := by
  rw [List.getD_eq_getElem?_getD]
  cases hx : l[i]? with
  | none => simp
  | some x => exact h x (List.mem_of_getElem? hx)
theorem bnd_mem {l : List Int} (h : ∀ i, 0 ≤ l.getD i 0 ∧ l.getD i 0 ≤ 18446744073709551615) : ∀ x ∈ l, 0 ≤ x ∧ x ≤ 18446744073709551615 := by
  intro x hx
  obtain ⟨i, hi, rfl⟩ := List.getElem_of_mem hx
  have := h i
  rw [List.getD_eq_getElem?_getD, List.getElem?_eq_getElem hi] at this
  exact this
theorem take_drop_ok {l : List Int} (h : ∀ i, 0 ≤ l.getD i 0 ∧ l.getD i 0 ≤ 18446744073709551615) (m n : Nat) (i : Nat) : 0 ≤ ((l.take m).drop n).getD i 0 ∧ ((l.take m).drop n).getD i 0 ≤ 18446744073709551615 :=
  getD_bnd (fun x hx => bnd_mem h x (List.mem_of_mem_take (List.mem_of_mem_drop hx))) i
section
variable {S : SP} {w : World} {G : List HProp}



theorem rd_part {w : World} {len cap b o l' h' : Nat} {xs : List Int} (h : RdS w 1 (.slice (some ⟨b, o, none⟩) len cap) (ints .u64 xs)) (h1 : l' ≤ h') (h2 : h' ≤ len) :
    RdS w 1 (.slice (if cap = l' then (some ⟨b, o, none⟩) else (some (⟨b, o, none⟩ : Addr)).map (·.add (l' * 1))) (h' - l') (cap - l')) (ints .u64 ((xs.take h').drop l')) := by
  have := h.sub h1 h2
  rw [Nat.mul_one, Nat.mul_one] at this
  unfold ints at this ⊢
  rw [← List.map_take, ← List.map_drop] at this
  simpa using this

theorem field_Bytes_ok {v : Value} (l : List Int) (n : Nat) (hn : l.length = (n + 7) / 8) (hl : l.length ≤ 1000000) (hb : ∀ i, 0 ≤ l.getD i 0 ∧ l.getD i 0 ≤ 18446744073709551615) (hr : ∀ w, Sat S w G → RdS w 1 v (ints .u64 l)) (h : Sat S w G) :
    Ret Try.prog F.field_Bytes #[v, .int .i64 n] w (fun v w' => (∃ s z, v = .tuple #[.string s, .int .i64 z] ∧ (z = 0 ↔ tailOk l n) ∧ (z = 0 → s = strOfNums (bytesZ l n)) ∧ s.size ≤ n) ∧ Sat S w' G) := by
  refine Ret.mono (field_Bytes_spec l n hl hb hr h) ?_
  rintro v w' ⟨⟨s, z, hf, rfl, ht⟩ | ⟨rfl, _, _, _, ht⟩, h⟩
  · rw [fbytes_ok hn] at hf
    obtain ⟨rfl, rfl⟩ := Prod.mk.inj hf
    refine ⟨⟨_, _, rfl, ⟨fun _ => by simpa using ht rfl, fun _ => rfl⟩, fun _ => rfl, ?_⟩, h⟩
    rw [strOfNums_size, bytesZ_length]
    exact Nat.le_refl _
  · exact ⟨⟨_, _, rfl, ⟨fun hx => by (cases hx), fun hx => absurd (by simpa using hx) ht⟩, fun hx => by (cases hx), Nat.zero_le _⟩, h⟩







theorem ref09_Words_spec (r : RecM) (p0 : 0 ≤ r.p) (hk : r.key.size ≤ 1000000) (hv : r.val.size ≤ 1000000) (h : Sat S w G) :
    Ret Try.prog F.ref09_Words #[.agg (recC r).toArray] w (fun v w' => Sat S w' (ownS T.uint64 1 v (ints .u64 (recW r)) :: G)) := by
  obtain ⟨p, t, i, key, val⟩ := r
  simp only at p0 hk hv
  refine ret_of is_ref09_Words rfl ?_
  repeat' (first | refine stPs ?_ | fail)
  refine p_do rfl (d_box rfl h) ?_
  rintro _ w ⟨b1, rfl, h⟩
  have h : Sat S w (pt b1 (.cells #[.int .u64 p, .bool t, .bool i, .string key, .string val] T.api_Record (0, 0)) :: _) := h
  repeat' (first | (refine p_val rfl (g_ldpre (vs := [.int .u64 p, .bool t, .bool i]) rfl rfl (h.at .here) (fun j u hj => by rcases j with _ | _ | _ | j <;> first | exact hj | exact absurd hj (by simp))) ?_) | refine stP ?_ | fail)
  refine p_call rfl rfl (ref08_Pack_spec p t i p0 h) ?_
  rintro _ w ⟨rfl, h⟩
  repeat' (first | refine stPs ?_ | fail)
  refine p_call rfl rfl (ref08_Lengths_spec key.size val.size h) ?_
  rintro _ w ⟨rfl, h⟩
  have hw : recW ⟨p, t, i, key, val⟩ = [(packV p t i).1, 0, (lengthsV key.size val.size).1] ++ wordsZ key ++ wordsZ val := rfl
  rw [hw]
  generalize packV p t i = q1 at *
  generalize lengthsV key.size val.size = q2 at *
  obtain ⟨x1, y1⟩ := q1
  obtain ⟨x2, y2⟩ := q2
  repeat' (first | refine stPs ?_ | fail)
  refine p_lit [.int .u64 x1, .int .u64 0, .int .u64 x2] rfl rfl rfl rfl rfl rfl h (fun v3 w h => ?_)
  have h : Sat S w (ownS T.uint64 1 v3 (ints .u64 [x1, 0, x2]) :: _) := h
  repeat' (first | refine stPs ?_ | fail)
  refine p_call rfl rfl (ref01_Words_spec key (by omega) h) ?_
  rintro v4 w h
  refine p_app rfl rfl rfl rfl (by decide) (h.pick (.there .here)) (ownS_rd h .here) (ints_one _ _) (by rw [ints_length, ints_length, wordsZ_length]; simp; omega) (by rw [ints_length, ints_length, wordsZ_length]; simp; omega) (fun v5 w h => ?_)
  have e5 : ints .u64 [x1, 0, x2] ++ ints .u64 (wordsZ key) = ints .u64 ([x1, 0, x2] ++ wordsZ key) := by simp [ints]
  rw [e5] at h
  repeat' (first | refine stPs ?_ | fail)
  refine p_call rfl rfl (ref01_Words_spec val (by omega) h) ?_
  rintro v6 w h
  refine p_app rfl rfl rfl rfl (by decide) (h.pick (.there .here)) (ownS_rd h .here) (ints_one _ _) (by rw [ints_length, ints_length, wordsZ_length, List.length_append, wordsZ_length]; simp; omega) (by rw [ints_length, ints_length, wordsZ_length, List.length_append, wordsZ_length]; simp; omega) (fun v7 w h => ?_)
  have e6 : ints .u64 ([x1, 0, x2] ++ wordsZ key) ++ ints .u64 (wordsZ val) = ints .u64 ([x1, 0, x2] ++ wordsZ key ++ wordsZ val) := by simp [ints]
  rw [e6] at h
  repeat' (first | refine stPs ?_ | fail)
  refine x_ret' is_ref09_Words rfl ?_
  exact h.sub (.cons .here (by repeat first | exact .refl _ | apply Sub.skip))
end
end Go.Proofs.Ytjoicobfjpaepaa
