/- Layer 11 (device): blocks are sorted by the library's sort. -/
import Derived.Test.YtfchenbihepjaaaP11t
import Derived.Test.YtfchenbihepjaaaLS
import Derived.Test.YtfchenbihepjaaaLay11
namespace Go.Proofs.Ytfchenbihepjaaa
open Go Go.HX
set_option maxRecDepth 4000
set_option maxHeartbeats 1000000
/-- Area first, then the number. -/
def Rising (s : List (Int × Int)) : Prop := s.Pairwise fun p q => p.1 < q.1 ∨ p.1 = q.1 ∧ p.2 ≤ q.2
section
variable {S : SP} {w : World} {G : List HProp}

theorem blk_swo : Sort.SWO (ltOf blkCmp) := by
  have e : ∀ p q : Int × Int, ltOf blkCmp p q = decide (p.1 < q.1 ∨ p.1 = q.1 ∧ p.2 < q.2) := fun p q => by
    unfold ltOf blkCmp cmpV
    by_cases h1 : p.1 < q.1
    · rw [if_pos h1, if_pos (by decide)]
      rw [decide_eq_true (by decide), decide_eq_true (.inl h1)]
    · by_cases h2 : q.1 < p.1
      · rw [if_neg h1, if_pos h2, if_pos (by decide), decide_eq_false (by decide), decide_eq_false (by omega)]
      · rw [if_neg h1, if_neg h2, if_neg (by decide)]
        by_cases h3 : p.2 < q.2
        · rw [if_pos h3, decide_eq_true (by decide), decide_eq_true (by omega)]
        · rw [if_neg h3]
          by_cases h4 : q.2 < p.2
          · rw [if_pos h4, decide_eq_false (by decide), decide_eq_false (by omega)]
          · rw [if_neg h4, decide_eq_false (by decide), decide_eq_false (by omega)]
  refine ⟨fun x => ?_, fun x y z h1 h2 => ?_, fun x y z h1 h2 => ?_⟩
  · rw [e, decide_eq_false (by omega)]
  · rw [e] at *
    have h1 := of_decide_eq_true h1
    have h2 := of_decide_eq_true h2
    exact decide_eq_true (by omega)
  · rw [e] at *
    have h1 := of_decide_eq_false h1
    have h2 := of_decide_eq_false h2
    exact decide_eq_false (by omega)
theorem blk_lt (p q : Int × Int) (h : ltOf blkCmp q p = false) : p.1 < q.1 ∨ p.1 = q.1 ∧ p.2 ≤ q.2 := by
  unfold ltOf blkCmp cmpV at h
  have h := of_decide_eq_false h
  by_cases h1 : q.1 < p.1
  · rw [if_pos h1, if_pos (by decide)] at h; exact absurd (by decide) h
  · by_cases h2 : p.1 < q.1
    · exact .inl h2
    · rw [if_neg h1, if_neg h2, if_neg (by decide)] at h
      by_cases h3 : q.2 < p.2
      · rw [if_pos h3] at h; exact absurd (by decide) h
      · right; omega

/-- slices.SortFunc of blocks, however many. -/
theorem sortBlocks {v : Value} (ts : List (Int × Int)) (hz : ts.length ≤ 1000000) (h : Sat S w (ownS T.api_Block 2 v (rows blkC ts) :: G)) :
    Ret Try.prog F.slices_SortFunc_api_Block_api_Block #[v, .func (.func F.device_Device_Blocks_1) #[] #[]] w (fun r w' => r = .tuple #[] ∧ ∃ m : List (Int × Int), m.Perm ts ∧ Rising m ∧ Sat S w' (ownS T.api_Block 2 v (rows blkC m) :: G)) := by
  obtain ⟨a, len, cap, rfl, hlen, _⟩ := ownS_slice h .here
  rw [rows_length blkC_len] at hlen
  rcases Nat.eq_zero_or_pos len with h0 | hp
  · subst h0
    obtain rfl : ts = [] := List.eq_nil_of_length_eq_zero (by omega)
    refine Calls.mono (AnyF.slices_SortFunc_none sortBlk a cap _ w) ?_
    rintro _ w' ⟨rfl, rfl⟩
    exact ⟨_, rfl, rfl, [], List.Perm.refl _, List.Pairwise.nil, h⟩
  · obtain ⟨b, rfl⟩ := ownS_addr (E := T.api_Block) h .here hp
    have hfl := flatK_rows blkC_len ts.toArray
    have h2 : Sat S w (ownS T.api_Block 2 (.slice (some ⟨b, 0, none⟩) len cap) ((Sort.flatK blkC 2 ts.toArray).toList.map id) :: G) := by
      rw [List.map_id, hfl]
      exact h
    obtain ⟨hH, hb⟩ := sat_holds id (Sort.flatK blkC 2 ts.toArray) hp h2
    have eg : ∀ args w, (callFunc F.device_Device_Blocks_1 args).run Try.prog w = .ok (.enter F.device_Device_Blocks_1 args) w := enters_of Try.func57 (by kernel_rfl) rfl
    have hcmp : CmpLays Try.prog F.device_Device_Blocks_1 #[] blkC 2 blkCmp b 0 ts.toArray.size w := fun _ _ _ _ x y => Calls.mono (device_Device_Blocks_1_eq x y _) (fun _ _ ⟨v, he, hv, hw⟩ => ⟨by rw [he, hv], hw⟩)
    have hsz : ts.toArray.size = len := by simp; omega
    have hc := AnyQ.slices_SortFunc sortBlk 2 Try.isAgg24 Try.sizeOf24 blkC blkC_len blkC_one blkCmp blk_swo F.device_Device_Blocks_1 #[] b 0 cap ts.toArray w eg hcmp hH hb (by omega)
    rw [hsz] at hc
    refine Calls.mono hc ?_
    rintro _ w' ⟨rfl, d', n, os, ⟨hs1, hs2, hs3⟩, hso, rfl⟩
    have hds : d'.size = len := by rw [hs1, hsz]
    have hpm : d'.toList.Perm ts := by
      have e1 : (d'.extract 0 len).toList = d'.toList := by rw [← hds]; simp
      have e2 : (ts.toArray.extract 0 len).toList = ts := by rw [← hsz]; simp
      rw [e1, e2] at hs3
      exact hs3
    refine ⟨_, rfl, rfl, d'.toList, hpm, ?_, ?_⟩
    · refine List.pairwise_iff_getElem.2 (fun i j hi hj hij => ?_)
      have h3 := hso i j (Nat.zero_le _) hij (by simpa [hds] using hj)
      rw [getElem!_pos d' j (by simpa using hj), getElem!_pos d' i (by simpa using hi)] at h3
      have h4 := blk_lt _ _ h3
      simpa using h4
    · have h5 := sat_row id (Sort.flatK blkC 2 d') (by rw [rows_length blkC_len, Sort.size_flatK, hds]; omega) n os hp h
      rw [List.map_id, flatK_rows blkC_len] at h5
      exact h5
end
end Go.Proofs.Ytfchenbihepjaaa
