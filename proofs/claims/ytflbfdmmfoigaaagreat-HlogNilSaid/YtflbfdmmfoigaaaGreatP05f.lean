/- Layer 5 (cell): some cells have words. -/
import Derived.Test.YtflbfdmmfoigaaaGreatHxS
import Derived.Test.YtflbfdmmfoigaaaGreatP05
namespace Go.Proofs.YtflbfdmmfoigaaaGreat
open Go Go.HX
attribute [local irreducible] Ret XRun XOps XDr XOne Does Gives
set_option maxRecDepth 4000
set_option maxHeartbeats 1000000
theorem stC0_P05f {goal next : Prop} (k : next) (hs : Hid next → goal := by (intro k; (first | (refine gC F.cell_Row_within ?_; refine p_call rfl rfl (cell_Row_within_nil _ _ h) ?_) | (refine gC F.cell_Row_within ?_; refine p_call rfl rfl (cell_Row_within_spec _ _ (h.rf1)) ?_) | fail); exact k.out)) : goal := hs ⟨k⟩
theorem stC1_P05f {goal next : Prop} (k : next) (hs : Hid next → goal := by (intro k; (first | (refine gC F.atomic_Uint64_Store ?_; refine p_call rfl rfl (atomic_Uint64_Store_spec _ (h.rf1) ?_) ?_; iterate 1 (first | assumption | omega | (simp only []; omega) | decide)) | fail); exact k.out)) : goal := hs ⟨k⟩
/-- Some cells, from i on, have other words. -/
def fillRow (ws : List Int) (i : Nat) (l : List Int) : List Int := ws.take i ++ l ++ ws.drop (i + l.length)
theorem fillRow_length {ws : List Int} {i : Nat} {l : List Int} (h : i + l.length ≤ ws.length) : (fillRow ws i l).length = ws.length := by
  unfold fillRow
  simp
  omega
theorem fillRow_step {ws : List Int} {i j : Nat} {l : List Int} {x : Int} (h : i + l.length ≤ ws.length) (hx : l[j]? = some x) : (fillRow ws i (l.take j)).set (i + j) x = fillRow ws i (l.take (j + 1)) := by
  have hj : j < l.length := (List.getElem?_eq_some_iff.1 hx).1
  unfold fillRow
  have e1 : (ws.take i ++ l.take j).length = i + j := by simp; omega
  rw [List.set_append_right _ _ (by rw [e1]; exact Nat.le_refl _), e1, Nat.sub_self, take_next hx]
  have e2 : i + (l.take j).length = i + j := by simp; omega
  have e3 : i + (l.take j ++ [x]).length = i + j + 1 := by simp; omega
  rw [e2, e3]
  have hlt : i + j < ws.length := by omega
  rw [List.drop_eq_getElem_cons hlt, List.set_cons_zero]
  simp
theorem fillRow_mem {ws : List Int} {i : Nat} {l : List Int} {y : Int} (h : y ∈ fillRow ws i l) : y ∈ ws ∨ y ∈ l := by
  unfold fillRow at h
  rw [List.mem_append, List.mem_append] at h
  rcases h with (h | h) | h
  · exact .inl (List.mem_of_mem_take h)
  · exact .inr h
  · exact .inl (List.mem_of_mem_drop h)
section
variable {S : SP} {w : World} {G : List HProp}

set_option maxHeartbeats 4000000 in
theorem cell_Row_Fill_spec {b : Nat} {r : RowM} {v : Value} (i : Int) (l : List Int) (hl : l.length ≤ 9223372036854775807) (hi : -9223372036854775808 ≤ i) (hb : ∀ x ∈ l, 0 ≤ x ∧ x ≤ 18446744073709551615) (hr : ∀ w, Sat S w G → RdS w 1 v (ints .u64 l)) (h : Sat S w (isRow b r :: G)) :
    Ret Tryz.prog F.cell_Row_Fill #[.pointer (some ⟨b, 0, none⟩), .int .i64 i, v] w (fun v w' => v = .int .i64 (if r.inR i l.length then 0 else 1) ∧ Sat S w' (isRow b (if r.inR i l.length then { r with ws := fillRow r.ws i.toNat l } else r) :: G)) := by
  obtain ⟨a, len, cap, rfl, _⟩ := hr w h.drop
  have hlen := (hr w h.drop).ilen
  refine ret_of is_cell_Row_Fill rfl ?_
  repeat' (first | refine stPs ?_ | (refine p_cmp rfl rfl rfl rfl (fun hc => ?_) (fun hc => ?_) <;> simp only [cmpProp] at hc) | fail)
  refine p_call rfl rfl (cell_Row_within_spec i len h) ?_
  rw [hlen]
  rintro _ w ⟨rfl, h⟩
  by_cases hp : r.inR i len
  · rw [if_pos hp, if_pos hp]
    obtain ⟨q0, q1, q2, q3⟩ := hp
    obtain ⟨k, rfl⟩ := Int.eq_ofNat_of_zero_le q1
    rw [Int.toNat_natCast]
    have hrow := (isRow_open h).1
    have hk : k + len ≤ r.ws.length := by omega
    repeat' (first | refine stPs ?_ | (refine stC0_P05f ?_; rintro _ w ⟨rfl, h⟩) | (refine stC1_P05f ?_; rintro _ w h) | (refine p_cmp rfl rfl rfl rfl (fun hc => ?_) (fun hc => ?_) <;> simp only [cmpProp] at hc) | fail)
    refine x_keep [0, 1, 18, 19, 20] rfl ?_
    refine x_loop_inv (fun lm le w => ∃ (j : Nat), lm = len - j ∧ j ≤ len ∧ le = [(0, .pointer (some ⟨b, 0, none⟩)), (1, .int .i64 k), (18, .slice a len cap), (19, .int .i64 len), (20, .int .i64 j)] ∧ Sat S w (isRow b { r with ws := fillRow r.ws k (l.take j) } :: G)) (len) ⟨0, rfl, by omega, rfl, (by simpa [fillRow] using h)⟩ ?_
    clear h
    rintro lm le w ⟨j, rfl, hi0, rfl, h⟩ ih
    by_cases hj : j < len
    · obtain ⟨x, hx⟩ := has_elem (show j < l.length by omega)
      have hgx : l.getD j 0 = x := by rw [List.getD_eq_getElem?_getD, hx]; rfl
      have hxb := hb x (List.mem_of_getElem? hx)
      obtain ⟨pa, po, rfl⟩ := (hr w h.drop).addr (by omega)
      have hlj : (fillRow r.ws k (l.take j)).length = r.ws.length := fillRow_length (by simp; omega)
      repeat' (first | (refine gL ?_; refine p_val rfl (g_ldI (i := j) rfl (hr _ h.drop) (by omega) (by omega)) ?_; rw [hgx]) | refine stP ?_ | (refine stC0_P05f ?_; rintro _ w ⟨rfl, h⟩) | (refine stC1_P05f ?_; rintro _ w h) | (refine p_cmp rfl rfl rfl rfl (fun hc => ?_) (fun hc => ?_) <;> simp only [cmpProp] at hc) | fail)
      obtain ⟨hok, c, cp, h⟩ := isRow_open h
      simp only at h
      rw [hlj] at h
      have hrl := hrow.1.2.1
      repeat' (first | refine stPs ?_ | (refine p_cmp rfl rfl rfl rfl (fun hc => ?_) (fun hc => ?_) <;> simp only [cmpProp] at hc) | fail)
      obtain ⟨cs, h, hlt, _, _, hsh⟩ := ownI_write (h.pick (.there .here)) (show k + j < (fillRow r.ws k (l.take j)).length by omega)
      have e : 0 + ((k : Int) + (j : Int)).toNat * 1 = k + j := by omega
      refine p_call rfl rfl (atomic_Uint64_Store_spec (o := 0 + ((k : Int) + (j : Int)).toNat * 1) x h (by omega)) ?_
      intro _ w h
      rw [e] at h
      have h := hsh h
      rw [fillRow_step (by omega) hx] at h
      repeat' (first | refine stPs ?_ | (refine p_cmp rfl rfl rfl rfl (fun hc => ?_) (fun hc => ?_) <;> simp only [cmpProp] at hc) | fail)
      refine x_keep [0, 1, 18, 19, 20] rfl (ih _ _ _ (by omega) ⟨j + 1, rfl, by omega, rfl, isRow_shut (r := { r with ws := fillRow r.ws k (l.take (j + 1)) }) (h.pick (.there .here)) ?_⟩)
      have hlj2 : (fillRow r.ws k (l.take (j + 1))).length = r.ws.length := fillRow_length (by simp; omega)
      refine ⟨⟨by simp only; rw [hlj2]; exact hrow.1.1, by simp only; rw [hlj2]; exact hrow.1.2.1, fun y hy => ?_⟩, hrow.2⟩
      rcases fillRow_mem hy with hy | hy
      · exact hrow.1.2.2 y hy
      · exact hb y (List.mem_of_mem_take hy)
    · obtain rfl : j = len := by omega
      rw [List.take_of_length_le (by omega)] at h
      repeat' (first | refine stPs ?_ | (refine p_cmp rfl rfl rfl rfl (fun hc => ?_) (fun hc => ?_) <;> simp only [cmpProp] at hc) | fail)
      exact x_ret' is_cell_Row_Fill rfl ⟨rfl, h⟩
  · rw [if_neg hp, if_neg hp]
    repeat' (first | refine stPs ?_ | (refine stC0_P05f ?_; rintro _ w ⟨rfl, h⟩) | (refine stC1_P05f ?_; rintro _ w h) | (refine p_cmp rfl rfl rfl rfl (fun hc => ?_) (fun hc => ?_) <;> simp only [cmpProp] at hc) | fail)
    exact x_ret' is_cell_Row_Fill rfl ⟨rfl, h⟩
end
end Go.Proofs.YtflbfdmmfoigaaaGreat
