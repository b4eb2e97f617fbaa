/- Layer 17 (index): what a drop leaves. -/
import Derived.Test.YtmlkeackapflhaaL17d
namespace Go.Proofs.Ytmlkeackapflhaa
open Go Go.HX
set_option maxRecDepth 4000
set_option maxHeartbeats 1000000
theorem slots_nodup {C : List Nat} (hd : C.Nodup) : (slotsG C).Nodup := by
  unfold slotsG
  refine List.pairwise_flatMap.2 ⟨fun b _ => ?_, ?_⟩
  · rw [List.pairwise_map]
    exact (List.nodup_range (n := 7)).imp (fun h e => h (by omega))
  · refine hd.imp (fun {a b} hab => ?_)
    intro u hu w hw e
    simp only [List.mem_map, List.mem_range] at hu hw
    obtain ⟨k1, hk1, rfl⟩ := hu
    obtain ⟨k2, hk2, rfl⟩ := hw
    exact hab (by omega)
theorem Lay.row {nb sp : Nat} (hs : nb + sp ≤ 2000) {r : Nat} : ∀ {ws : List Int} {st : List Int × Nat × Nat} {Cs : List (List Nat)} {R : List (List Int)} {C : List Nat} {l : List Int}, Lay nb sp st.1 st.2.1 Cs R → Cs[r]? = some C → R[r]? = some l → C.getLast? = some st.2.2 → (∀ w ∈ ws, 0 ≤ w ∧ w ≤ 18446744073709551615) →
    (layR nb st l.length ws).2.1 ≤ sp → ∃ C', Lay nb sp (layR nb st l.length ws).1 (layR nb st l.length ws).2.1 (Cs.set r C') (R.set r (l ++ ws)) ∧ C'.getLast? = some (layR nb st l.length ws).2.2
  | [], st, Cs, R, C, l, h, hC, hl, hat, _, _ => ⟨C, by rw [List.append_nil, set_same hC, set_same hl]; exact h, hat⟩
  | w :: ws, st, Cs, R, C, l, h, hC, hl, hat, hb, hcap => by
    have hm : (putW nb st l.length w).2.1 ≤ sp := Nat.le_trans layR_mono hcap
    obtain ⟨C1, h1, h2⟩ := h.step hs hC hl hat (hb w (by simp)).1 (hb w (by simp)).2 hm
    have hrl : r < Cs.length := (List.getElem?_eq_some_iff.1 hC).1
    have hrR : r < R.length := (List.getElem?_eq_some_iff.1 hl).1
    have hll : (l ++ [w]).length = l.length + 1 := by simp
    obtain ⟨C2, h3, h4⟩ := Lay.row hs (ws := ws) (st := putW nb st l.length w) h1 (List.getElem?_set_self hrl) (List.getElem?_set_self hrR) h2 (fun v hv => hb v (List.mem_cons_of_mem _ hv)) (by rw [hll]; exact hcap)
    rw [hll, List.set_set, List.set_set, List.append_assoc] at h3
    rw [hll] at h4
    exact ⟨C2, h3, h4⟩
theorem Lay.all {nb sp : Nat} (hs : nb + sp ≤ 2000) : ∀ {rs : List (List Int)} {dn : List (List Int)} {st : List Int × Nat} {Cs : List (List Nat)}, dn.length + rs.length = nb → Lay nb sp st.1 st.2 Cs (dn ++ List.replicate rs.length []) → (∀ r, dn.length ≤ r → r < nb → Cs[r]? = some [r]) →
    (∀ r ∈ rs, ∀ w ∈ r, 0 ≤ w ∧ w ≤ 18446744073709551615) → (layAll nb st dn.length rs).2 ≤ sp → ∃ Cs', Lay nb sp (layAll nb st dn.length rs).1 (layAll nb st dn.length rs).2 Cs' (dn ++ rs)
  | [], dn, st, Cs, _, h, _, _, _ => ⟨Cs, by simpa [layAll] using h⟩
  | r :: rs, dn, st, Cs, hn, h, hc, hb, hcap => by
    simp only [List.length_cons] at hn
    have hC := hc dn.length (Nat.le_refl _) (by omega)
    have hR : (dn ++ List.replicate (r :: rs).length ([] : List Int))[dn.length]? = some [] := by
      rw [List.getElem?_append_right (Nat.le_refl _), Nat.sub_self]
      rfl
    have hm : (layR nb (st.1, st.2, dn.length) ([] : List Int).length r).2.1 ≤ sp := Nat.le_trans (layAll_mono (nb := nb) (rs := rs) (st := ((layR nb (st.1, st.2, dn.length) 0 r).1, (layR nb (st.1, st.2, dn.length) 0 r).2.1)) (b := dn.length + 1)) hcap
    obtain ⟨C', h1, _⟩ := Lay.row hs (ws := r) (st := (st.1, st.2, dn.length)) h hC hR rfl (hb r (by simp)) hm
    have e : (dn ++ List.replicate (r :: rs).length ([] : List Int)).set dn.length ([] ++ r) = (dn ++ [r]) ++ List.replicate rs.length [] := by
      rw [List.set_append_right _ _ (Nat.le_refl _), Nat.sub_self, List.length_cons, List.replicate_succ, List.set_cons_zero]
      simp
    rw [e] at h1
    have hll : (dn ++ [r]).length = dn.length + 1 := by simp
    have h2 := Lay.all hs (rs := rs) (dn := dn ++ [r]) (st := ((layR nb (st.1, st.2, dn.length) 0 r).1, (layR nb (st.1, st.2, dn.length) 0 r).2.1)) (by rw [hll]; omega) h1 (fun k hk hkn => by
      rw [hll] at hk
      rw [List.getElem?_set_ne (by omega)]
      exact hc k (by omega) hkn) (fun u hu => hb u (List.mem_cons_of_mem _ hu)) (by rw [hll]; exact hcap)
    rw [hll, List.append_assoc] at h2
    exact h2
theorem lay_zero (nb sp : Nat) : Lay nb sp (List.replicate ((nb + sp) * 8) 0) 0 ((List.range nb).map (fun b => [b])) (List.replicate nb []) := by
  have hz : ∀ i : Nat, (List.replicate ((nb + sp) * 8) (0 : Int)).getD i 0 = 0 := fun i => by
    rw [List.getD_eq_getElem?_getD, List.getElem?_replicate]
    split <;> rfl
  have hfl : ∀ n, ((List.range n).map (fun b => [b])).flatten = List.range n := fun n => by
    induction n with
    | zero => rfl
    | succ n ih => rw [List.range_succ, List.map_append, List.flatten_append, ih]; rfl
  have hC : ∀ (b : Nat) (C : List Nat), ((List.range nb).map (fun b => [b]))[b]? = some C → C = [b] := fun b C h => by
    rw [List.getElem?_map] at h
    cases hb : (List.range nb)[b]? with
    | none => rw [hb] at h; cases h
    | some c =>
      obtain ⟨h1, h2⟩ := List.getElem?_eq_some_iff.1 hb
      rw [List.getElem_range] at h2
      rw [hb] at h
      simp at h
      rw [← h, h2]
  refine ⟨⟨by simp, fun i => by rw [hz]; simp, by simp, fun b C h => ?_, by rw [hfl]; exact List.nodup_range, fun c => by rw [hfl]; simp, by omega, fun i _ => hz i⟩, by simp, fun r C l h hl => ?_⟩
  · rw [hC b C h]
    exact ⟨rfl, by unfold lnkW; rw [hz]; rfl⟩
  · rw [hC r C h]
    have : l = [] := by
      rw [List.getElem?_replicate] at hl
      split at hl
      · cases hl; rfl
      · cases hl
    subst this
    refine ⟨?_, by simp, by simp, by simp⟩
    have : slotsG [r] = [r * 8 + 0, r * 8 + 1, r * 8 + 2, r * 8 + 3, r * 8 + 4, r * 8 + 5, r * 8 + 6] := rfl
    unfold wordsC
    rw [this]
    simp only [List.map_cons, List.map_nil, hz]
    rfl
/-- What a drop leaves. -/
theorem forest_drop {x : IdxM} {Cs : List (List Nat)} (h : Forest x Cs) : ∃ Cs', Forest x.drop Cs' ∧ ∀ b, b < x.nb → (x.drop.words b).filter nz = x.rest b := by
  have hcap := laid_cap h
  have hmay := mayN_le h.may
  have hsp := h.sp
  have hrl : x.rests.length = x.nb := by unfold IdxM.rests; simp
  have hwd : ∀ b, b < x.nb → ∀ w ∈ x.rest b, w ≠ 0 ∧ (unpackE w).2 = 0 ∧ 0 ≤ w ∧ w ≤ 18446744073709551615 := fun b hb w hw => by
    unfold IdxM.rest IdxM.words at hw
    obtain ⟨h1, h2⟩ := List.mem_filter.1 hw
    obtain ⟨s, hs, rfl⟩ := List.mem_map.1 h1
    have h3 : x.wd s ≠ 0 := by
      unfold keepW at h2
      rw [Bool.and_eq_true] at h2
      exact of_decide_eq_true h2.1
    rcases h.ent s (mem_slots.1 hs).1 with h4 | h4
    · exact absurd h4 h3
    · exact ⟨h3, h4, h.ch.bnd s⟩
  have hrm : ∀ r ∈ x.rests, ∃ b, b < x.nb ∧ r = x.rest b := fun r hr => by
    unfold IdxM.rests at hr
    obtain ⟨b, hb, rfl⟩ := List.mem_map.1 hr
    exact ⟨b, List.mem_range.1 hb, rfl⟩
  have hrg : ∀ b, b < x.nb → x.rests[b]? = some (x.rest b) := fun b hb => by
    unfold IdxM.rests
    rw [List.getElem?_map, List.getElem?_range hb]
    rfl
  have h0 := lay_zero x.nb x.sp
  rw [← h.ch.wl] at h0
  obtain ⟨Cs', hl⟩ := Lay.all (nb := x.nb) (sp := x.sp) (by omega) (rs := x.rests) (dn := []) (st := (List.replicate x.row.ws.length 0, 0)) (by simp [hrl]) (by rw [hrl]; exact h0) (fun r _ hr => by
    rw [List.getElem?_map, List.getElem?_range hr]
    rfl) (fun r hr w hw => by
    obtain ⟨b, hb, rfl⟩ := hrm r hr
    exact (hwd b hb w hw).2.2) hcap.2
  have hl : Lay x.nb x.sp x.laid.1 x.laid.2 Cs' x.rests := hl
  have htk : x.drop.taken = x.laid.2 := by unfold IdxM.drop IdxM.taken; simp
  have hch : Chains x.drop.nb x.drop.sp x.drop.row.ws x.drop.taken Cs' := by rw [htk]; exact hl.ch
  have hcon : ∀ (b : Nat) (C : List Nat), Cs'[b]? = some C → b < x.nb ∧ (slotsG C).map x.drop.wd = x.rest b ++ List.replicate (C.length * 7 - (x.rest b).length) 0 := fun b C hC => by
    have hb : b < x.nb := by rw [← hl.ch.len]; exact (List.getElem?_eq_some_iff.1 hC).1
    exact ⟨hb, (hl.con b C _ hC (hrg b hb)).1⟩
  have hrp : ∀ b, b < x.nb → (x.rest b).Pairwise (fun u v => (unpackE u).1.tag ≠ (unpackE v).1.tag) := fun b hb => by
    obtain ⟨C, hC⟩ := h.ch.get hb
    have hp : ((x.words b).filter keepW).Pairwise (fun u v => u ≠ 0 → v ≠ 0 → (unpackE u).1.tag ≠ (unpackE v).1.tag) := by
      refine List.Pairwise.filter _ ?_
      unfold IdxM.words
      rw [h.chain hC, List.pairwise_map]
      refine (slots_nodup (nodup_part h.ch.nd hC)).imp_of_mem (fun {s t} hs ht hne hs0 ht0 he => hne (h.uniq b C hC s hs t ht hs0 ht0 he))
    exact hp.imp_of_mem (fun {u v} hu hv huv => huv (hwd b hb u hu).1 (hwd b hb v hv).1)
  have hget : ∀ (b : Nat) (C : List Nat), Cs'[b]? = some C → ∀ (i s : Nat), (slotsG C)[i]? = some s → x.drop.wd s ≠ 0 → (x.rest b)[i]? = some (x.drop.wd s) := fun b C hC i s hs hw => by
    have e := congrArg (fun l => l[i]?) (hcon b C hC).2
    simp only [List.getElem?_map, hs, Option.map_some] at e
    by_cases hi : i < (x.rest b).length
    · rw [List.getElem?_append_left hi] at e
      exact e.symm
    · rw [List.getElem?_append_right (by omega), List.getElem?_replicate] at e
      split at e
      · simp only [Option.some.injEq] at e
        exact absurd e hw
      · cases e
  refine ⟨Cs', ⟨h.may, h.sp, rfl, by unfold IdxM.drop; simp, hch, fun s hs => ?_, fun b C hC s hs t ht hs0 ht0 he => ?_⟩, fun b hb => ?_⟩
  · by_cases hw : x.drop.wd s = 0
    · exact .inl hw
    · right
      by_cases hsl : s < (x.nb + x.laid.2) * 8
      · obtain ⟨C, hC, hcC⟩ := List.mem_flatten.1 ((hl.ch.cov (s / 8)).2 (by omega))
        obtain ⟨b, hb⟩ := List.getElem?_of_mem hC
        obtain ⟨i, hi⟩ := List.getElem?_of_mem (mem_slots.2 ⟨hs, hcC⟩)
        have hm := List.mem_of_getElem? (hget b C hb i s hi hw)
        exact (hwd b (hcon b C hb).1 _ hm).2.1
      · exact absurd (hl.ch.zero s (by omega)) hw
  · obtain ⟨i, hi⟩ := List.getElem?_of_mem hs
    obtain ⟨j, hj⟩ := List.getElem?_of_mem ht
    have h1 := hget b C hC i s hi hs0
    have h2 := hget b C hC j t hj ht0
    have hp := hrp b (hcon b C hC).1
    rw [List.pairwise_iff_getElem] at hp
    obtain ⟨hil, h1⟩ := List.getElem?_eq_some_iff.1 h1
    obtain ⟨hjl, h2⟩ := List.getElem?_eq_some_iff.1 h2
    by_cases hij : i = j
    · subst hij
      rw [hi] at hj
      cases hj
      rfl
    · exfalso
      rcases Nat.lt_or_gt_of_ne hij with hlt | hlt
      · have := hp i j hil hjl hlt
        rw [h1, h2] at this
        exact this he
      · have := hp j i hjl hil hlt
        rw [h1, h2] at this
        exact this he.symm
  · obtain ⟨C, hC⟩ := hl.ch.get hb
    have hx : x.drop.words b = (slotsG C).map x.drop.wd := by
      unfold IdxM.words
      rw [show x.drop.chain b = C from hch.chain hC]
    rw [hx, (hcon b C hC).2, List.filter_append]
    have e1 : (x.rest b).filter nz = x.rest b := List.filter_eq_self.2 (fun w hw => decide_eq_true (hwd b hb w hw).1)
    have e2 : (List.replicate (C.length * 7 - (x.rest b).length) (0 : Int)).filter nz = [] := List.filter_eq_nil_iff.2 (fun w hw => by rw [(List.mem_replicate.1 hw).2]; decide)
    rw [e1, e2, List.append_nil]
end Go.Proofs.Ytmlkeackapflhaa
