/- Layer 17 (index): what looks and entries have to do with each other. -/
import Derived.Test.YtmlkeackapflhaaL17e
namespace Go.Proofs.Ytmlkeackapflhaa
open Go Go.HX
set_option maxRecDepth 4000
set_option maxHeartbeats 1000000
theorem forest_entries {x : IdxM} {Cs : List (List Nat)} (h : Forest x Cs) {b : Nat} (hb : b < x.nb) : (x.entries b).Pairwise (fun u v => (unpackE u).1.tag ≠ (unpackE v).1.tag) ∧ ∀ w ∈ x.entries b, w ≠ 0 ∧ (unpackE w).2 = 0 ∧ 0 ≤ w ∧ w ≤ 18446744073709551615 := by
  obtain ⟨C, hC⟩ := h.ch.get hb
  have hw : ∀ w ∈ x.entries b, w ≠ 0 ∧ (unpackE w).2 = 0 ∧ 0 ≤ w ∧ w ≤ 18446744073709551615 := fun w hw => by
    unfold IdxM.entries IdxM.words at hw
    obtain ⟨h1, h2⟩ := List.mem_filter.1 hw
    obtain ⟨s, hs, rfl⟩ := List.mem_map.1 h1
    have h3 : x.wd s ≠ 0 := of_decide_eq_true h2
    rcases h.ent s (mem_slots.1 hs).1 with h4 | h4
    · exact absurd h4 h3
    · exact ⟨h3, h4, h.ch.bnd s⟩
  refine ⟨?_, hw⟩
  have hp : ((x.words b).filter nz).Pairwise (fun u v => u ≠ 0 → v ≠ 0 → (unpackE u).1.tag ≠ (unpackE v).1.tag) := by
    refine List.Pairwise.filter _ ?_
    unfold IdxM.words
    rw [h.chain hC, List.pairwise_map]
    exact (slots_nodup (nodup_part h.ch.nd hC)).imp_of_mem (fun {s t} hs ht hne hs0 ht0 he => hne (h.uniq b C hC s hs t ht hs0 ht0 he))
  exact hp.imp_of_mem (fun {u v} hu hv huv => huv (hw u hu).1 (hw v hv).1)
theorem look_entries {x : IdxM} {Cs : List (List Nat)} (h : Forest x Cs) (y : Int) : ∃ b, b < x.nb ∧ (b : Int) = bucketZ y x.nb ∧
    (((lookV x y).kind = 1 ∧ (lookV x y).word ∈ x.entries b ∧ (unpackE (lookV x y).word).1.tag = tagZ y) ∨ ((lookV x y).kind ≠ 1 ∧ (lookV x y).word = 0 ∧ ∀ w ∈ x.entries b, (unpackE w).1.tag ≠ tagZ y)) := by
  obtain ⟨b, C, hne, hb, hbe, hC, _, hcase⟩ := look_tells h y
  have hmem : ∀ s ∈ slotsG C, x.wd s ≠ 0 → x.wd s ∈ x.entries b := fun s hs hw => by
    unfold IdxM.entries IdxM.words
    rw [h.chain hC]
    exact List.mem_filter.2 ⟨List.mem_map.2 ⟨s, hs, rfl⟩, decide_eq_true hw⟩
  have hall : (∀ t ∈ slotsG C, hasE (x.wd t) (tagZ y) = false) → ∀ w ∈ x.entries b, (unpackE w).1.tag ≠ tagZ y := fun hno w hw => by
    have hw2 := (forest_entries h hb).2 w hw
    unfold IdxM.entries IdxM.words at hw
    rw [h.chain hC] at hw
    obtain ⟨h1, _⟩ := List.mem_filter.1 hw
    obtain ⟨s, hs, rfl⟩ := List.mem_map.1 h1
    have := of_decide_eq_false (hno s hs)
    exact fun e => this ⟨hw2.2.1, e⟩
  refine ⟨b, hb, hbe, ?_⟩
  rcases hcase with ⟨hk, s, hs, _, hw, hE⟩ | ⟨hk, hw, hno, _⟩ | ⟨hk, hw, hno⟩
  · obtain ⟨h1, h2⟩ := of_decide_eq_true hE
    have hnz : x.wd s ≠ 0 := fun e => by rw [e] at h1; exact absurd h1 (by decide)
    rw [hw]
    exact .inl ⟨hk, hmem s hs hnz, h2⟩
  · exact .inr ⟨by omega, hw, hall hno⟩
  · exact .inr ⟨by omega, hw, hall hno⟩
theorem pair_tag {l : List Int} (hp : l.Pairwise (fun u v => (unpackE u).1.tag ≠ (unpackE v).1.tag)) {u v : Int} (hu : u ∈ l) (hv : v ∈ l) (he : (unpackE u).1.tag = (unpackE v).1.tag) : u = v := by
  obtain ⟨i, hi, rfl⟩ := List.getElem_of_mem hu
  obtain ⟨j, hj, rfl⟩ := List.getElem_of_mem hv
  rw [List.pairwise_iff_getElem] at hp
  rcases Nat.lt_trichotomy i j with h | h | h
  · exact absurd he (hp i j hi hj h)
  · subst h; rfl
  · exact absurd he.symm (hp j i hj hi h)
theorem grow_nb (x : IdxM) (y a : Int) : (growX x y a).nb = x.nb ∧ (growX x y a).sp = x.sp := by
  unfold growX
  split
  · unfold turnX tryX; split
    · split <;> exact ⟨rfl, rfl⟩
    · exact ⟨rfl, rfl⟩
  · split
    · unfold claimX tryX; split <;> exact ⟨rfl, rfl⟩
    · split
      · exact ⟨rfl, rfl⟩
      · have : (spareX x).2.nb = x.nb ∧ (spareX x).2.sp = x.sp := by unfold spareX; split <;> exact ⟨rfl, rfl⟩
        unfold linkX tryX; split <;> exact this
theorem forest_zero {n s : Int} (hn : mayN n) (s0 : 0 ≤ s) (s1 : s ≤ 64) : ∃ Cs, Forest (idx0 n s) Cs := by
  have hok := idx0_ok hn s0 s1
  have hl := lay_zero n.toNat s.toNat
  have hm := mayN_le hn
  have hz : ∀ i : Nat, (idx0 n s).wd i = 0 := fun i => by
    unfold IdxM.wd idx0
    simp only
    rw [List.getD_eq_getElem?_getD, List.getElem?_replicate]
    split <;> rfl
  have e : ((n + s) * 8).toNat = (n.toNat + s.toNat) * 8 := by omega
  refine ⟨(List.range n.toNat).map (fun b => [b]), hok.may, hok.sp, rfl, (by unfold idx0; simp), ?_, fun i _ => .inl (hz i), fun b C _ i _ j _ hi => absurd (hz i) hi⟩
  have : (idx0 n s).row.ws = List.replicate ((n.toNat + s.toNat) * 8) 0 := by unfold idx0; simp only; rw [e]
  rw [this]
  exact hl.ch
theorem forest_new {n s : Int} (hn : mayN n) (s0 : 0 ≤ s) (s1 : s ≤ 64) : Forest (idx0 n s) ((List.range n.toNat).map (fun b => [b])) := by
  have hok := idx0_ok hn s0 s1
  have hl := lay_zero n.toNat s.toNat
  have hm := mayN_le hn
  have hz : ∀ i : Nat, (idx0 n s).wd i = 0 := fun i => by
    unfold IdxM.wd idx0
    simp only
    rw [List.getD_eq_getElem?_getD, List.getElem?_replicate]
    split <;> rfl
  have e : ((n + s) * 8).toNat = (n.toNat + s.toNat) * 8 := by omega
  refine ⟨hok.may, hok.sp, rfl, (by unfold idx0; simp), ?_, fun i _ => .inl (hz i), fun b C _ i _ j _ hi => absurd (hz i) hi⟩
  have : (idx0 n s).row.ws = List.replicate ((n.toNat + s.toNat) * 8) 0 := by unfold idx0; simp only; rw [e]
  rw [this]
  exact hl.ch
def act17T : Ty := .st (.pair (.int .i64) (.pair (.int .u64) (.pair (.int .i64) (.pair (.int .u64) (.pair .bool (.pair (.int .u64) (.pair (.int .i64) (.pair (.int .i64) .unit))))))))
theorem arg_act17 {W : World} {c : List Value} (h : Arg W act17T c) : ∃ x : Act17, c = act17C x ∧ ((0 ≤ x.h ∧ x.h ≤ 18446744073709551615) ∧ 0 ≤ x.addr) := by
  obtain ⟨_, _, rfl, ⟨k, rfl, _⟩, _, _, rfl, ⟨y, rfl, hy⟩, _, _, rfl, ⟨s, rfl, _⟩, _, _, rfl, ⟨o, rfl, _⟩, _, _, rfl, ⟨m, rfl⟩, _, _, rfl, ⟨a, rfl, ha⟩, _, _, rfl, ⟨bk, rfl, _⟩, _, _, rfl, ⟨sp, rfl, _⟩, h⟩ := h
  obtain rfl : _ = [] := h
  exact ⟨⟨k, y, s, o, m, a, bk, sp⟩, rfl, wf_u64 hy, (wf_u64 ha).1⟩
end Go.Proofs.Ytmlkeackapflhaa
