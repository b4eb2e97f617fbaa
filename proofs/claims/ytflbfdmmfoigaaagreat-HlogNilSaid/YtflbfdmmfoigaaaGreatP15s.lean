/- Layer 15 (hlog): a map's keys, sorted. -/
import Derived.Test.YtflbfdmmfoigaaaGreatHxS
import Derived.Test.YtflbfdmmfoigaaaGreatP15k
import Derived.Test.YtflbfdmmfoigaaaGreatLS
import Derived.Test.YtflbfdmmfoigaaaGreatLay15
import Derived.Shelf.Sort.Plain
import Derived.Shelf.Slices.In.SortNone
namespace Go.Proofs.YtflbfdmmfoigaaaGreat
open Go Go.HX
attribute [local irreducible] Ret XRun XOps XDr XOne Does Gives
set_option maxRecDepth 4000
set_option maxHeartbeats 1000000
theorem stC0_P15s {goal next : Prop} (k : next) (hs : Hid next → goal := by (intro k; (first | (refine gC F.slices_Collect_int ?_; refine p_call rfl rfl (slices_Collect_int_spec _ ?_ (h.rf2)) ?_; iterate 1 (first | assumption | omega | (simp only []; omega) | decide)) | fail); exact k.out)) : goal := hs ⟨k⟩
theorem stC1_P15s {goal next : Prop} (k : next) (hs : Hid next → goal := by (intro k; (first | (refine gC F.slices_Sort_int_int ?_; refine p_call rfl rfl (slices_Sort_int_int_spec _ ?_ (h.rf1)) ?_; iterate 1 (first | assumption | omega | (simp only []; omega) | decide)) | fail); exact k.out)) : goal := hs ⟨k⟩
section
variable {S : SP} {w : World} {G : List HProp}
theorem ren_sort : lays189_ren.f 189 = F.slices_Sort_int_int := rfl
theorem sortInts {v : Value} (zs : List Int) (hz : zs.length ≤ 1000000) (h : Sat S w (ownS T.int 1 v (ints .i64 zs) :: G)) :
    Ret Tryz.prog F.slices_Sort_int_int #[v] w (fun r w' => r = .tuple #[] ∧ ∃ m : List Int, m.Perm zs ∧ m.Pairwise (· ≤ ·) ∧ Sat S w' (ownS T.int 1 v (ints .i64 m) :: G)) := by
  obtain ⟨a, len, cap, rfl, hlen, _⟩ := ownS_slice h .here
  rw [ints_length, Nat.mul_one] at hlen
  rcases Nat.eq_zero_or_pos len with h0 | hp
  · subst h0
    obtain rfl : zs = [] := List.eq_nil_of_length_eq_zero hlen
    have hc := Any.slices_Sort_int_none lays189 a cap w
    rw [ren_sort] at hc
    unfold Ret
    refine Calls.mono hc ?_
    rintro _ w' ⟨rfl, rfl⟩
    exact ⟨_, rfl, rfl, [], List.Perm.refl _, List.Pairwise.nil, h⟩
  · obtain ⟨b, rfl⟩ := ownS_addr (E := T.int) h .here hp
    have h2 : Sat S w (ownS T.int 1 (.slice (some ⟨b, 0, none⟩) len cap) (zs.toArray.toList.map (Value.int .i64)) :: G) := h
    obtain ⟨hH, hb⟩ := sat_holds (Value.int .i64) zs.toArray hp h2
    have hc := Any.slices_Sort_int lays189 b 0 cap zs w hH hb (by omega)
    rw [hlen, ren_sort] at hc
    unfold Ret
    refine Calls.mono hc ?_
    rintro _ w' ⟨rfl, n, os, rfl⟩
    refine ⟨_, rfl, rfl, zs.mergeSort (fun x y => decide (x ≤ y)), List.mergeSort_perm _ _, ?_, ?_⟩
    · have := List.pairwise_mergeSort (le := fun x y : Int => decide (x ≤ y)) (fun a b c h1 h2 => by simp at *; omega) (fun a b => by simp; omega) zs
      exact this.imp (fun hab => by simpa using hab)
    · exact sat_row (Value.int .i64) (zs.mergeSort fun x y => decide (x ≤ y)).toArray (by rw [ints_length]; simp) n os hp h
theorem sorted_keys {b bm : Nat} (kv : IV) (hl : kv.length ≤ 1000) (h : Sat S w (isMap encI b kv :: pt bm (.cells #[.map (some b)] T.map_int_int (0, 0)) :: G)) :
    Ret Tryz.prog F.slices_Sorted_int #[.func (.func F.maps_Keys_map_int_int_int_int_1) #[] #[.pointer (some ⟨bm, 0, none⟩)]] w (fun v w' => ∃ m : List Int, m.Perm (kv.map (·.1)) ∧ m.Pairwise (· ≤ ·) ∧ Sat S w' (ownS T.int 1 v (ints .i64 m) :: isMap encI b kv :: pt bm (.cells #[.map (some b)] T.map_int_int (0, 0)) :: G)) := by
  refine ret_of is_slices_Sorted_int rfl ?_
  repeat' (first | (refine gC F.slices_Collect_int ?_; refine p_call rfl rfl (collect_keys kv hl h) ?_; rintro v w ⟨xs, hxs, h⟩) | (refine gC F.slices_Sort_int_int ?_; refine p_call rfl rfl (sortInts xs (by have := hxs.length_eq; rw [List.length_map] at this; omega) h) ?_; rintro _ w ⟨rfl, m, hm, hs, h⟩) | refine stP ?_ | (refine stC0_P15s ?_; rintro v w ⟨xs, hq1, h⟩) | (refine stC1_P15s ?_; rintro _ w ⟨rfl, ⟨m, hq1, hq2, h⟩⟩) | fail)
  exact x_ret' is_slices_Sorted_int rfl ⟨m, hm.trans hxs, hs, h⟩
end
end Go.Proofs.YtflbfdmmfoigaaaGreat
