/- The library's sort, over what a call owns. -/
import Derived.Test.YtflbfdmmfoigaaaGreatHxS
import Derived.Shelf.Sort.Plain
namespace Go.Proofs.YtflbfdmmfoigaaaGreat
open Go Go.HX
set_option maxRecDepth 4000
set_option maxHeartbeats 1000000
section
variable {S : SP} {w : World} {G : List HProp} {α : Type} [Inhabited α]
/-- A row's cells, laid. -/
theorem putCells_at (enc : α → Value) (d : Array α) (cs spare : List Value) (h : cs.length = d.size) : Sort.putCells enc 0 d (cs ++ spare).toArray = (d.toList.map enc ++ spare).toArray := by
  apply Array.ext_getElem?
  intro k
  unfold Sort.putCells
  rw [Array.getElem?_mapIdx, List.getElem?_toArray, List.getElem?_toArray]
  by_cases hk : k < d.size
  · rw [List.getElem?_append_left (by omega), List.getElem?_append_left (by simpa using hk), List.getElem?_map, List.getElem?_eq_getElem (by omega), List.getElem?_eq_getElem (by simpa using hk), Option.map_some, Option.map_some, if_pos ⟨Nat.zero_le _, by omega⟩, Nat.sub_zero, getElem!_pos d k hk]
    rfl
  · have hm : (d.toList.map enc).length = d.size := by simp
    rw [List.getElem?_append_right (by omega), List.getElem?_append_right (by omega), h, hm]
    cases spare[k - d.size]? with
    | none => rfl
    | some y => rw [Option.map_some, if_neg (by omega)]
theorem sat_row {E : TypeId} {k len cap b : Nat} {cs : List Value} (enc : α → Value) (d : Array α) (hd : cs.length = d.size) (m : Nat) (os : Array Obj) (hl : 0 < len) (h : Sat S w (ownS E k (.slice (some ⟨b, 0, none⟩) len cap) cs :: G)) :
    Sat S (Sort.grow (Sort.putRow enc (Sort.ahead w m) b 0 d) os) (ownS E k (.slice (some ⟨b, 0, none⟩) len cap) (d.toList.map enc) :: G) := by
  obtain ⟨b', spare, he, h1, h2, h3, h4, h5⟩ := ownS_open h hl
  simp at he
  subst he
  refine ownS_shut (spare := spare) ?_ (by rw [List.length_map, Array.length_toList]; omega) h2 h3 h4
  have hb := h5.block
  have hb2 := (Array.getElem?_eq_some_iff.1 hb).1
  refine h5.write rfl rfl rfl ?_ ?_ (fun i hi hlt => ?_)
  · simp [Sort.grow, Sort.putRow, Sort.mapBlock, Sort.ahead]
  · rw [← putCells_at enc d cs spare hd]
    show ((w.heap.modify b (Sort.onCells (Sort.putCells enc 0 d))) ++ os)[b]? = _
    rw [Array.getElem?_append_left (by simpa using hb2), Array.getElem?_modify, if_pos rfl, hb]
    rfl
  · show ((w.heap.modify b (Sort.onCells (Sort.putCells enc 0 d))) ++ os)[i]? = _
    rw [Array.getElem?_append_left (by simpa using hlt), Array.getElem?_modify, if_neg (fun e => hi e.symm)]
theorem sat_holds {E : TypeId} {k len cap b : Nat} (enc : α → Value) (d : Array α) (hl : 0 < len) (h : Sat S w (ownS E k (.slice (some ⟨b, 0, none⟩) len cap) (d.toList.map enc) :: G)) : Sort.Holds enc w b 0 d ∧ b < w.heap.size := by
  have hrd := ownS_rd h .here
  obtain ⟨b', spare, he, h1, h2, h3, h4, h5⟩ := ownS_open h hl
  simp at he
  subst he
  have hb := h5.block
  refine ⟨fun j hj => ⟨?_, ?_⟩, (Array.getElem?_eq_some_iff.1 hb).1⟩
  · refine hrd.cell ?_
    rw [List.getElem?_map, List.getElem?_eq_getElem (by simpa using hj), Option.map_some, getElem!_pos d j hj]
    rfl
  · unfold World.frozen?
    simp only
    rw [hb]
    simp
end
end Go.Proofs.YtflbfdmmfoigaaaGreat
