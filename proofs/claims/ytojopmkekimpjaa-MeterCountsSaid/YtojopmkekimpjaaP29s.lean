/- Layer 29 (meter): the library's sorts at this program. -/
import Derived.Test.YtojopmkekimpjaaP29u
import Derived.Shelf.Sort.Plain
import Derived.Shelf.Slices.In.SortNone
namespace Go.Proofs.Ytojopmkekimpjaa
open Go Go.HX
set_option maxRecDepth 4000
set_option maxHeartbeats 1000000
theorem ints_map (kd : IntKind) (l : List Int) : ints kd l = l.map (Value.int kd) := rfl
section
variable {S : SP} {w : World} {G : List HProp}

/-- slices.Sort of whole numbers, however many. -/
theorem sortInts {v : Value} (zs : List Int) (hz : zs.length ≤ 1000000) (h : Sat S w (ownS T.int 1 v (ints .i64 zs) :: G)) :
    Ret Try.prog F.slices_Sort_int_int #[v] w (fun r w' => r = .tuple #[] ∧ ∃ m : List Int, m.Perm zs ∧ Sorted m ∧ Sat S w' (ownS T.int 1 v (ints .i64 m) :: G)) := by
  obtain ⟨a, len, cap, rfl, hlen, _⟩ := ownS_slice h .here
  rw [ints_length, Nat.mul_one] at hlen
  rcases Nat.eq_zero_or_pos len with h0 | hp
  · subst h0
    obtain rfl : zs = [] := List.eq_nil_of_length_eq_zero hlen
    refine Calls.mono (Any.slices_Sort_int_none lays189 a cap w) ?_
    rintro _ w' ⟨rfl, rfl⟩
    exact ⟨_, rfl, rfl, [], List.Perm.refl _, List.Pairwise.nil, h⟩
  · obtain ⟨b, rfl⟩ := ownS_addr (E := T.int) h .here hp
    have h2 : Sat S w (ownS T.int 1 (.slice (some ⟨b, 0, none⟩) len cap) (zs.toArray.toList.map (Value.int .i64)) :: G) := h
    obtain ⟨hH, hb⟩ := sat_holds (Value.int .i64) zs.toArray hp h2
    have hc := Any.slices_Sort_int lays189 b 0 cap zs w hH hb (by omega)
    rw [hlen] at hc
    refine Calls.mono hc ?_
    rintro _ w' ⟨rfl, n, os, rfl⟩
    refine ⟨_, rfl, rfl, zs.mergeSort (fun x y => decide (x ≤ y)), List.mergeSort_perm _ _, ?_, ?_⟩
    · have := List.pairwise_mergeSort (le := fun x y : Int => decide (x ≤ y)) (fun a b c h1 h2 => by simp at *; omega) (fun a b => by simp; omega) zs
      exact this.imp (fun hab => by simpa using hab)
    · exact sat_row (Value.int .i64) (zs.mergeSort fun x y => decide (x ≤ y)).toArray (by rw [ints_length]; simp) n os hp h
end
end Go.Proofs.Ytojopmkekimpjaa
