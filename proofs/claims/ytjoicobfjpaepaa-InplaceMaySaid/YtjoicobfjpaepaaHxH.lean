/- HX, part H: rows of elements; more operations. -/
import Derived.Test.YtjoicobfjpaepaaHxG
namespace Go.HX
open Go Go.RowKit

def BoolIs (v : Value) (p : Prop) : Prop := (v = .bool true ∧ p) ∨ (v = .bool false ∧ ¬ p)
theorem BoolIs.mono {v : Value} {p q : Prop} (h : BoolIs v p) (e : p ↔ q) : BoolIs v q := h.imp (fun h => ⟨h.1, e.1 h.2⟩) (fun h => ⟨h.1, fun hq => h.2 (e.2 hq)⟩)
theorem BoolIs.t {p : Prop} (h : p) : BoolIs (.bool true) p := .inl ⟨rfl, h⟩
theorem BoolIs.f {p : Prop} (h : ¬ p) : BoolIs (.bool false) p := .inr ⟨rfl, h⟩

section
variable {P : Program} {fn : FuncId} {N : Nat} {e : Env} {w w' : World} {Q : Value → World → Prop} {k : List XI} {l : List XOp}
variable {S : SP} {G G' : List HProp} {x y : Operand}

/-! ### reading rows -/
theorem RdS.nil (w : World) (n : Nat) : RdS w n (.slice none 0 0) [] := ⟨none, 0, 0, rfl, Nat.le_refl _, by simp, fun h => absurd h (by omega)⟩
theorem RdS.len {n len cap : Nat} {a : Option Addr} {cs : List Value} (h : RdS w n (.slice a len cap) cs) : cs.length = len * n ∧ len ≤ cap := by
  obtain ⟨a', len', cap', he, h1, h2, _⟩ := h
  simp at he
  obtain ⟨rfl, rfl, rfl⟩ := he
  exact ⟨h2, h1⟩
theorem RdS.addr {n len cap : Nat} {a : Option Addr} {cs : List Value} (h : RdS w n (.slice a len cap) cs) (hl : 0 < len) : ∃ b o, a = some ⟨b, o, none⟩ := by
  obtain ⟨a', len', cap', he, h1, h2, h3⟩ := h
  simp at he
  obtain ⟨rfl, rfl, rfl⟩ := he
  obtain ⟨b, o, h4, _⟩ := h3 hl
  exact ⟨b, o, h4⟩
theorem RdS.cell {n len cap b o j : Nat} {cs : List Value} {u : Value} (h : RdS w n (.slice (some ⟨b, o, none⟩) len cap) cs) (hj : cs[j]? = some u) : w.cell? ⟨b, o + j, none⟩ = some u := by
  obtain ⟨a', len', cap', he, h1, h2, h3⟩ := h
  simp at he
  obtain ⟨rfl, rfl, rfl⟩ := he
  have hjl := (List.getElem?_eq_some_iff.1 hj).1
  obtain ⟨b', o', h4, h5⟩ := h3 (by
    rcases Nat.eq_zero_or_pos len with h0 | h0
    · subst h0; simp at h2; subst h2; simp at hjl
    · exact h0)
  simp at h4
  obtain ⟨rfl, rfl⟩ := h4
  exact h5 j u hj
theorem ownS_rd {E : TypeId} {n : Nat} {v : Value} {cs : List Value} (h : Sat S w G) (hh : Has G (ownS E n v cs) G') : RdS w n v cs := by
  obtain ⟨H, ⟨H1, H2, a, g, d, rfl⟩, ho⟩ := (h.pick hh).own
  rcases a with ⟨rfl, rfl, _⟩ | ⟨b, len, cap, spare, rfl, hl, h1, h2, h3, hp⟩
  · exact RdS.nil w n
  · refine ⟨_, len, cap, rfl, h1, hl, fun _ => ⟨b, 0, rfl, fun j u hj => ?_⟩⟩
    unfold pt at hp
    subst hp
    have h9 := (ho b (.cells (cs ++ spare).toArray E (0, 0)) (by simp [Hun])).1
    rw [Nat.zero_add]
    refine cell_of_heap h9 ?_
    rw [List.getElem?_toArray, List.getElem?_append_left (List.getElem?_eq_some_iff.1 hj).1]; exact hj

/-- The row's shape. -/
theorem ownS_shape {E : TypeId} {n : Nat} {v : Value} {cs : List Value} (len : Nat) (h : Sat S w G) (hh : Has G (ownS E n v cs) G') (hl : cs.length = len * n) (h0 : 0 < len := by decide) (hn : 0 < n := by decide) : ∃ b cap, v = .slice (some ⟨b, 0, none⟩) len cap := by
  obtain ⟨H, ⟨H1, H2, aa, g, d, rfl⟩, ho⟩ := (h.pick hh).own
  have hp := Nat.mul_pos h0 hn
  rcases aa with ⟨rfl, rfl, _⟩ | ⟨b, len', cap', spare, rfl, hl', h1, h2, h3, _⟩
  · rw [List.length_nil] at hl; rw [← hl] at hp; cases hp
  · refine ⟨b, cap', ?_⟩
    have : len' = len := Nat.eq_of_mul_eq_mul_right hn (by rw [← hl', hl])
    rw [this]
/-- The row's block, open: for a store. -/
theorem ownS_open {E : TypeId} {n len cap : Nat} {a : Option Addr} {cs : List Value} (h : Sat S w (ownS E n (.slice a len cap) cs :: G)) (hl : 0 < len) :
    ∃ b spare, a = some ⟨b, 0, none⟩ ∧ cs.length = len * n ∧ len ≤ cap ∧ cap ≤ maxLen ∧ spare.length = (cap - len) * n ∧ Sat S w (pt b (.cells (cs ++ spare).toArray E (0, 0)) :: G) := by
  obtain ⟨H, ⟨H1, H2, aa, g, d, rfl⟩, ho⟩ := h.own
  rcases aa with ⟨he, _, _⟩ | ⟨b, len', cap', spare, he, hl', h1, h2, h3, hp⟩
  · simp at he; omega
  · simp at he
    obtain ⟨rfl, rfl, rfl⟩ := he
    exact ⟨b, spare, rfl, hl', h1, h2, h3, h.below, h.le, _, ⟨H1, H2, hp, g, d, rfl⟩, ho⟩
theorem ownS_shut {E : TypeId} {n len cap b : Nat} {cs spare : List Value} (h : Sat S w (pt b (.cells (cs ++ spare).toArray E (0, 0)) :: G)) (hl : cs.length = len * n) (h1 : len ≤ cap) (h2 : cap ≤ maxLen) (h3 : spare.length = (cap - len) * n) :
    Sat S w (ownS E n (.slice (some ⟨b, 0, none⟩) len cap) cs :: G) :=
  h.mono (fun _ hH => .inr ⟨b, len, cap, spare, rfl, hl, h1, h2, h3, hH⟩)
/-- What make made. -/
theorem ownS_made {E : TypeId} {n len cap b : Nat} {z : List Value} (h : Sat S w (pt b (.cells (zerosA z cap).toArray E (0, 0)) :: G)) (hz : z.length = n) (h1 : len ≤ cap) (h2 : cap ≤ maxLen) :
    Sat S w (ownS E n (.slice (some ⟨b, 0, none⟩) len cap) (zerosA z len) :: G) := by
  have he : zerosA z cap = zerosA z len ++ zerosA z (cap - len) := by
    unfold zerosA
    have : cap = len + (cap - len) := by omega
    conv => lhs; rw [this, List.range_add, List.flatMap_append]
    congr 1
    rw [List.flatMap_map]
  rw [he] at h
  exact ownS_shut h (by rw [zerosA_length, hz]) h1 h2 (by rw [zerosA_length, hz])

/-- Whole numbers in a row. -/
def ints (kd : IntKind) (xs : List Int) : List Value := xs.map (Value.int kd)
theorem ints_length (kd : IntKind) (xs : List Int) : (ints kd xs).length = xs.length := by simp [ints]
theorem ints_get {kd : IntKind} {xs : List Int} {i : Nat} (h : i < xs.length) : (ints kd xs)[i]? = some (.int kd (xs.getD i 0)) := by
  simp [ints, List.getElem?_eq_getElem h]
theorem ints_one (kd : IntKind) (xs : List Int) : ∀ u ∈ ints kd xs, u.oneCell' = true := by
  intro u hu
  simp [ints] at hu
  obtain ⟨a, _, rfl⟩ := hu
  rfl
theorem RdS.ilen {len cap : Nat} {a : Option Addr} {kd : IntKind} {xs : List Int} (h : RdS w 1 (.slice a len cap) (ints kd xs)) : xs.length = len := by
  have := h.len.1
  rw [ints_length] at this; omega
theorem zeros_ints (kd : IntKind) (n : Nat) : zerosA [Value.int kd 0] n = ints kd (List.replicate n 0) := by rw [zerosA_one]; simp [ints]
/-- make of a row of whole numbers -/
theorem p_mkI {E : TypeId} {by' : Nat} {kd : IntKind} {lo : Operand} {n : Nat} {k1 : IntKind} {dst : Option Nat} {g : Option (Nat × Bool)} (hg : wantedE e g = some true) (hl : Env.val e lo = some (.int k1 (n : Int))) (hb : n * by' ≤ 281474976710656) (hn63 : n ≤ 9223372036854775807)
    (h : Sat S w G) (hn : ∀ v w', Sat S w' (ownS E 1 v (ints kd (List.replicate n 0)) :: G) → XOps P fn N l k (Env.put e dst v) w' Q) : XOps P fn N (⟨dst, g, .mks E 1 by' [.int kd 0] lo lo⟩ :: l) k e w Q := by
  refine p_do hg (d_mks hl hl (by omega) (by omega) (by omega) (by omega) (by simp) rfl h) ?_
  rintro _ w' ⟨b, rfl, h'⟩
  refine hn _ _ ?_
  rw [← zeros_ints]
  simp only [Int.toNat_natCast] at h' ⊢
  exact ownS_made h' rfl (Nat.le_refl _) (by unfold maxLen; omega)
/-- An element of a row of whole numbers, read. -/
theorem g_ldI {b o q i len cap : Nat} {kd : IntKind} {xs : List Int} (hx : Env.val e x = some (.pointer (some ⟨b, q, none⟩))) (h : RdS w 1 (.slice (some ⟨b, o, none⟩) len cap) (ints kd xs)) (hq : q = o + i) (hi : i < xs.length) :
    Gives P N (.ld x none) e w (.int kd (xs.getD i 0)) := by
  subst hq
  exact g_ld hx (h.cell (ints_get hi))
theorem r_ldI {es : List (List Nat)} {B : List Nat} {ws m : Nat} {R : Rec} {todo : List (Nat × XOp)} {i0 : Nat} {d : Option Nat} {g : Option (Nat × Bool)} {b o q i len cap : Nat} {kd : IntKind} {xs : List Int} (hr : rdyB es m i0 = true) (hg : wantedE e g = some true)
    (hx : Env.val e x = some (.pointer (some ⟨b, q, none⟩))) (h : RdS w 1 (.slice (some ⟨b, o, none⟩) len cap) (ints kd xs)) (hq : q = o + i) (hi : i < xs.length)
    (hn : XDr P fn N es B ws ((i0, fun w => w.cell? ⟨b, o + i, none⟩ = some (.int kd (xs.getD i 0))) :: R) todo (m ||| 2 ^ i0) k (Env.put e d (.int kd (xs.getD i 0))) w Q) : XDr P fn N es B ws R ((i0, ⟨d, g, .ld x none⟩) :: todo) m k e w Q := by
  subst hq
  exact r_ld hr hg hx (h.cell (ints_get hi)) hn
/-- An owned row of whole numbers, open at one element. -/
theorem ownI_write {E : TypeId} {b i len cap : Nat} {kd : IntKind} {xs : List Int} (h : Sat S w (ownS E 1 (.slice (some ⟨b, 0, none⟩) len cap) (ints kd xs) :: G)) (hi : i < xs.length) :
    ∃ c, Sat S w (pt b (.cells c E (0, 0)) :: G) ∧ i < c.size ∧ c[i]? = some (.int kd (xs.getD i 0)) ∧ (∀ {w' : World}, Sat S w' (pt b (.cells c E (0, 0)) :: G) → Sat S w' (ownS E 1 (.slice (some ⟨b, 0, none⟩) len cap) (ints kd xs) :: G)) ∧
      ∀ {w' : World} {y : Int}, Sat S w' (pt b (.cells (c.setIfInBounds i (.int kd y)) E (0, 0)) :: G) → Sat S w' (ownS E 1 (.slice (some ⟨b, 0, none⟩) len cap) (ints kd (xs.set i y)) :: G) := by
  have hxl : xs.length = len := (ownS_rd h .here).ilen
  obtain ⟨b', spare, he, h1, h2, h3, h4, h5⟩ := ownS_open h (by omega)
  simp at he
  subst he
  refine ⟨_, h5, by simp [ints_length]; omega, ?_, fun {w'} h6 => ownS_shut h6 h1 h2 h3 h4, fun {w' y} h6 => ownS_shut (spare := spare) ?_ (by rw [ints_length, List.length_set, hxl]; omega) h2 h3 h4⟩
  · rw [List.getElem?_toArray, List.getElem?_append_left (by rw [ints_length]; exact hi), ints_get hi]
  · have : (ints kd xs ++ spare).toArray.setIfInBounds i (.int kd y) = (ints kd (xs.set i y) ++ spare).toArray := by
      rw [List.setIfInBounds_toArray, List.set_append_left _ _ (by rw [ints_length]; exact hi)]
      simp [ints, List.map_set]
    rw [this] at h6
    exact h6
/-- An element of an owned row of whole numbers, written. -/
theorem d_stI {E : TypeId} {b q i len cap : Nat} {kd : IntKind} {xs : List Int} {y : Int} {v : Operand} (hx : Env.val e x = some (.pointer (some ⟨b, q, none⟩))) (hv : Env.val e v = some (.int kd y))
    (h : Sat S w (ownS E 1 (.slice (some ⟨b, 0, none⟩) len cap) (ints kd xs) :: G)) (hq : q = i) (hi : i < xs.length) :
    Does P N (.st x v 1) e w (fun v' w' => v' = undef ∧ Sat S w' (ownS E 1 (.slice (some ⟨b, 0, none⟩) len cap) (ints kd (xs.set i y)) :: G)) := by
  subst hq
  have hxl : xs.length = len := (ownS_rd h .here).ilen
  obtain ⟨b', spare, he, h1, h2, h3, h4, h5⟩ := ownS_open h (by omega)
  simp at he
  subst he
  refine (d_st (o := q) hx hv rfl h5 (by simp [ints_length]; omega)).mono ?_
  rintro v' w' ⟨rfl, h6⟩
  refine ⟨rfl, ownS_shut (spare := spare) ?_ (by rw [ints_length, List.length_set, hxl]; omega) h2 h3 h4⟩
  have : (ints kd xs ++ spare).toArray.setIfInBounds q (.int kd y) = (ints kd (xs.set q y) ++ spare).toArray := by
    rw [List.setIfInBounds_toArray, List.set_append_left _ _ (by rw [ints_length]; exact hi)]
    simp [ints, List.map_set]
  rw [this] at h6
  exact h6

/-! ### slices' and literals' making -/
theorem fold_fill : ∀ (u : List Value) (k off : Nat) (cells : List Value), off + k + u.length ≤ cells.length →
    (u.zipIdx k).foldl (fun (cs : Array Value) (p : Value × Nat) => cs.setIfInBounds (off + p.2) p.1) cells.toArray = (cells.take (off + k) ++ u ++ cells.drop (off + k + u.length)).toArray
  | [], k, off, cells, h => by simp
  | v :: u, k, off, cells, h => by
    simp only [List.zipIdx_cons, List.foldl_cons, List.length_cons] at h ⊢
    rw [List.setIfInBounds_toArray, fold_fill u (k + 1) off (cells.set (off + k) v) (by simp; omega)]
    congr 1
    have := list_seg_step cells (off + k) v u (by omega)
    rw [show off + (k + 1) = off + k + 1 by omega]
    rw [show off + k + 1 + u.length = off + k + (u.length + 1) by omega] at this ⊢
    simpa using this
def fillL (place : Nat → Option (Nat × Nat)) (cells : List Value) : List (Nat × Value) → Option (List Value)
  | [] => some cells
  | (i, v) :: rest => match place i with
    | none => none
    | some (off, size) => match Nat.beq v.cells.toList.length size && Nat.ble (off + v.cells.toList.length) cells.length with
      | true => fillL place (cells.take off ++ v.cells.toList ++ cells.drop (off + v.cells.toList.length)) rest
      | false => none
theorem fill_fillL (place : Nat → Option (Nat × Nat)) : ∀ (vs : List (Nat × Value)) (cells : List Value) (r : List Value), fillL place cells vs = some r → Instr.fill place cells.toArray vs = some r.toArray
  | [], cells, r, h => by simp [fillL] at h; subst h; rfl
  | (i, v) :: rest, cells, r, h => by
    simp only [fillL] at h
    cases hp : place i with
    | none => rw [hp] at h; cases h
    | some q =>
      obtain ⟨off, size⟩ := q
      rw [hp] at h
      simp only at h
      split at h
      · rename_i hc
        simp only [Bool.and_eq_true] at hc
        have h1 : v.cells.size = size := by have := Nat.eq_of_beq_eq_true hc.1; simpa using this
        have h2 : off + v.cells.size ≤ cells.length := by have := Nat.le_of_ble_eq_true hc.2; simpa using this
        simp only [Instr.fill, hp]
        rw [if_neg (by simp; omega)]
        have h3 : (v.cells.zipIdx.foldl (fun cs (c, j) => cs.setIfInBounds (off + j) c) cells.toArray) = (cells.take off ++ v.cells.toList ++ cells.drop (off + v.cells.toList.length)).toArray := by
          have := fold_fill v.cells.toList 0 off cells (by simp; omega)
          rw [← Array.foldl_toList]
          simpa using this
        rw [h3]
        exact fill_fillL place rest _ r h
      · cases h
def Env.parts (e : Env) : List (Nat × Operand) → Option (List (Nat × Value))
  | [] => some []
  | (i, x) :: r => match Env.val e x with
    | none => none
    | some v => match Env.parts e r with
      | none => none
      | some vs => some ((i, v) :: vs)
theorem Agree.parts {a : Act} (h : Agree N e a) : ∀ {ps : List (Nat × Operand)} {vs : List (Nat × Value)}, Env.parts e ps = some vs → ps.map (fun p => (p.1, a.eval p.2)) = vs
  | [], vs, hx => by simp [Env.parts] at hx; simp [hx]
  | (i, x) :: ps, vs, hx => by
    simp only [Env.parts] at hx
    cases h1 : Env.val e x with
    | none => simp [h1] at hx
    | some v =>
      cases h2 : Env.parts e ps with
      | none => simp [h1, h2] at hx
      | some us =>
        simp [h1, h2] at hx
        subst hx
        simp [h.val h1, h.parts h2]
def bslZ (z : List Value) (n : Nat) : Array Value := (Array.range n).map (fun i => z.toArray[i % z.toArray.size]!)
/-- A literal of a slice. -/
theorem d_bsl {E : TypeId} {sz ln : Nat} {z : List Value} {ps : List (Nat × Operand)} {vs : List (Nat × Value)} {cells : Array Value} (hp : Env.parts e ps = some vs) (hsm : Nat.ble (ln * sz) 16777216 = true) (hz : ln * sz ≠ 0 ∨ ln = 0)
    (hf : Instr.fill (fun i => some (i * sz, sz)) (bslZ z (ln * sz)) vs = some cells) (h : Sat S w G) :
    Does P N (.bsl E sz ln z ps) e w (fun v w' => ∃ b, v = .slice (some ⟨b, 0, none⟩) ln ln ∧ Sat S w' (pt b (.cells cells E (0, 0)) :: G)) := by
  intro op a hco hA next Q' hn
  obtain ⟨t, parts, hop, he, hs, hzz, rfl⟩ := co_bsl hco
  have hpv := hA.parts hp
  have hpa : (parts.map (fun p => (p.1, a.eval p.2))).toList = vs := by rw [Array.toList_map]; exact hpv
  obtain ⟨i, hi, zv, hzv, hzc⟩ : ∃ i, P.info? E = some i ∧ ∃ zv, i.zero = some zv ∧ zv.cells.toList = z := by
    unfold zeroAt at hzz
    cases hi : P.info? E with
    | none => simp [hi] at hzz
    | some i =>
      rw [hi] at hzz
      simp at hzz
      split at hzz
      · rename_i zv hzv; simp at hzz; exact ⟨i, rfl, zv, hzv, hzz⟩
      · simp at hzz
  have hzs : zv.cells = z.toArray := by rw [← hzc]
  have hsm' : ¬ ln * sz > 2 ^ 24 := by
    have := Nat.le_of_ble_eq_true hsm
    simpa using this
  have hrun : (Instr.buildSlice t ln (parts.map (fun p => (p.1, a.eval p.2)))).run P w = .ok (.slice (some ⟨w.heap.size, 0, none⟩) ln ln) (w.alloc (.cells cells E (0, 0))) := by
    unfold Instr.buildSlice
    simp only [Sem.run_bind, run_underlying (elem_und he), Result.andThen, size_run hs, hpa, if_neg hsm']
    by_cases h0 : ln * sz = 0
    · have hl0 : ln = 0 := by
        rcases hz with h' | h'
        · exact absurd h0 h'
        · exact h'
      subst hl0
      have hr0 : Array.range 0 = #[] := by apply Array.ext <;> simp
      have hf' := hf
      unfold bslZ at hf'
      simp only [Nat.zero_mul, hr0, Array.map_empty] at hf'
      simp only [Nat.zero_mul, if_true, hr0, Array.map_empty, hf']
      simp [newRow]
    · have hf' := hf
      unfold bslZ at hf'
      rw [if_neg h0]
      simp only [Sem.run_bind, zeroValue, typeInfo, run_program, Result.andThen, hi, Sem.run_pure, hzv, hzs, hf']
      simp [newRow]
  have : (execOp a.eval op).run P w = .ok (.value (.slice (some ⟨w.heap.size, 0, none⟩) ln ln)) (w.alloc (.cells cells E (0, 0))) := by
    simp only [execOp, hop]
    simp only [Sem.run_bind, hrun, Result.andThen, Sem.run_pure]
  rw [this]
  exact hn _ _ ⟨_, rfl, h.alloc _⟩
theorem p_lit {E : TypeId} {sz ln : Nat} {z : List Value} {ps : List (Nat × Operand)} {vs : List (Nat × Value)} {dst : Option Nat} {g : Option (Nat × Bool)} (cs : List Value) (hg : wantedE e g = some true) (hp : Env.parts e ps = some vs) (hsm : Nat.ble (ln * sz) 16777216 = true) (hz : (Nat.beq z.length sz && Nat.blt 0 sz) = true)
    (hf : fillL (fun i => some (i * sz, sz)) (zerosA z ln) vs = some cs) (hl : Nat.beq cs.length (ln * sz) = true) (h : Sat S w G)
    (hn : ∀ v w', Sat S w' (ownS E sz v cs :: G) → XOps P fn N l k (Env.put e dst v) w' Q) : XOps P fn N (⟨dst, g, .bsl E sz ln z ps⟩ :: l) k e w Q := by
  simp only [Bool.and_eq_true, Nat.blt_eq] at hz
  have hzl : z.length = sz := Nat.eq_of_beq_eq_true hz.1
  have hln : ln ≤ 16777216 := by
    have := Nat.le_of_ble_eq_true hsm
    exact Nat.le_trans (Nat.le_mul_of_pos_right _ hz.2) this
  have hz' : ln * sz ≠ 0 ∨ ln = 0 := by
    rcases Nat.eq_zero_or_pos ln with h0 | h0
    · exact .inr h0
    · exact .inl (fun h1 => by rcases Nat.mul_eq_zero.1 h1 with h2 | h2 <;> omega)
  have hzz : bslZ z (ln * sz) = (zerosA z ln).toArray := by
    unfold bslZ
    rw [← hzl]
    exact mks_zeros z ln (fun h0 => by rw [h0] at hzl; simp at hzl; omega)
  have hf := fill_fillL _ vs _ _ hf
  rw [← hzz] at hf
  have hlen : cs.length = ln * sz := Nat.eq_of_beq_eq_true hl
  refine p_do hg (d_bsl hp hsm hz' hf h) ?_
  rintro _ w' ⟨b, rfl, h'⟩
  refine hn _ _ (ownS_shut (spare := []) ?_ hlen (Nat.le_refl _) ?_ (by simp))
  · rw [List.append_nil]; exact h'
  · unfold maxLen
    omega
/-- append, what is appended being a row that is read. -/
theorem p_app {E : TypeId} {n by' : Nat} {z : List Value} {s : Operand} {v vx : Value} {cs news : List Value} {dst : Option Nat} {g : Option (Nat × Bool)} (hg : wantedE e g = some true) (hs : Env.val e s = some v) (hx : Env.val e x = some vx) (hz : z.length = n) (hn0 : 0 < n)
    (h : Sat S w (ownS E n v cs :: G)) (hr : RdS w n vx news) (h1 : ∀ u ∈ news, u.oneCell' = true)
    (hsz : (cs.length + news.length) * by' ≤ 140737488355328 * n) (h63 : cs.length + news.length ≤ 9223372036854775807)
    (hn : ∀ v' w', Sat S w' (ownS E n v' (cs ++ news) :: G) → XOps P fn N l k (Env.put e dst v') w' Q) : XOps P fn N (⟨dst, g, .app E n by' z s x⟩ :: l) k e w Q := by
  obtain ⟨a, len, cap, rfl, h2, h3, h4⟩ := hr
  exact p_do hg (d_app hs hx hz hn0 h h3 h4 h1 hsz h63) hn
/-- A literal of a struct. -/
def Env.parts3 (e : Env) : List (Nat × Nat × Operand) → Option (List (Nat × Nat × Value))
  | [] => some []
  | (o, s, x) :: r => match Env.val e x with
    | none => none
    | some v => match Env.parts3 e r with
      | none => none
      | some vs => some ((o, s, v) :: vs)
def fill3L (cells : List Value) : List (Nat × Nat × Value) → Option (List Value)
  | [] => some cells
  | (off, size, v) :: rest => match Nat.beq v.cells.toList.length size && Nat.ble (off + v.cells.toList.length) cells.length with
    | true => fill3L (cells.take off ++ v.cells.toList ++ cells.drop (off + v.cells.toList.length)) rest
    | false => none
def fill3 (cells : Array Value) : List (Nat × Nat × Value) → Option (Array Value)
  | [] => some cells
  | (off, size, v) :: rest =>
    if v.cells.size ≠ size || off + v.cells.size > cells.size then none
    else fill3 (v.cells.zipIdx.foldl (fun cs (c, j) => cs.setIfInBounds (off + j) c) cells) rest
theorem fill_fill3 {pl : List (Nat × Nat)} {a : Act} (hA : Agree N e a) : ∀ {ps : List (Nat × Operand)} {l : List (Nat × Nat × Operand)} {vs : List (Nat × Nat × Value)}, partsAt pl ps = some l → Env.parts3 e l = some vs → ∀ cells, Instr.fill (fun i => pl.toArray[i]?) cells (ps.map (fun p => (p.1, a.eval p.2))) = fill3 cells vs
  | [], l, vs, h1, h2, cells => by
    simp [partsAt] at h1; subst h1
    simp [Env.parts3] at h2; subst h2
    rfl
  | (i, x) :: ps, l, vs, h1, h2, cells => by
    simp only [partsAt] at h1
    split at h1
    · rename_i off s l' hp hl
      simp at h1
      subst h1
      simp only [Env.parts3] at h2
      cases hx : Env.val e x with
      | none => simp [hx] at h2
      | some v =>
        cases hr : Env.parts3 e l' with
        | none => simp [hx, hr] at h2
        | some us =>
          simp [hx, hr] at h2
          subst h2
          have hq : (pl.toArray)[i]? = some (off, s) := by simpa using hp
          simp only [List.map_cons, Instr.fill, fill3, hq, hA.val hx]
          split
          · rfl
          · exact fill_fill3 hA hl hr _
    · simp at h1
theorem places_run (w : World) : ∀ {fs : List Field} {pl : List (Nat × Nat)}, placesAt P fs = some pl → (List.mapM (fun f : Field => (do pure (f.offset, ← sizeOf f.type) : Sem (Nat × Nat))) fs).run P w = .ok pl w
  | [], pl, h => by simp [placesAt] at h; subst h; simp
  | f :: fs, pl, h => by
    simp only [placesAt] at h
    split at h
    · rename_i s l hs hl
      simp at h
      subst h
      simp only [List.mapM_cons, Sem.run_bind, size_run hs, Result.andThen, Sem.run_pure, places_run w hl]
    · simp at h
theorem fill3_L : ∀ (vs : List (Nat × Nat × Value)) (cells : List Value) (r : List Value), fill3L cells vs = some r → fill3 cells.toArray vs = some r.toArray
  | [], cells, r, h => by simp [fill3L] at h; subst h; rfl
  | (off, size, v) :: rest, cells, r, h => by
    simp only [fill3L] at h
    split at h
    · rename_i hc
      simp only [Bool.and_eq_true] at hc
      have h1 : v.cells.size = size := by have := Nat.eq_of_beq_eq_true hc.1; simpa using this
      have h2 : off + v.cells.size ≤ cells.length := by have := Nat.le_of_ble_eq_true hc.2; simpa using this
      simp only [fill3]
      rw [if_neg (by simp; omega)]
      have h3 : (v.cells.zipIdx.foldl (fun cs (c, j) => cs.setIfInBounds (off + j) c) cells.toArray) = (cells.take off ++ v.cells.toList ++ cells.drop (off + v.cells.toList.length)).toArray := by
        have := fold_fill v.cells.toList 0 off cells (by simp; omega)
        rw [← Array.foldl_toList]
        simpa using this
      rw [h3]
      exact fill3_L rest _ r h
    · cases h
theorem g_bld {z : List Value} {ps : List (Nat × Nat × Operand)} {vs : List (Nat × Nat × Value)} {cells : List Value} (hp : Env.parts3 e ps = some vs) (hf3 : fill3L z vs = some cells) : Gives P N (.bld z ps) e w (.agg cells.toArray) := by
  have hf := fill3_L vs z cells hf3
  intro op a hco hA
  obtain ⟨t, parts, fs, pl, hop, hu, hzz, hpl, hps⟩ := co_bld hco
  obtain ⟨i, hi, zv, hzv, hzc⟩ : ∃ i, P.info? t = some i ∧ ∃ zv, i.zero = some zv ∧ zv.cells.toList = z := by
    unfold zeroAt at hzz
    cases hi : P.info? t with
    | none => simp [hi] at hzz
    | some i =>
      rw [hi] at hzz
      simp at hzz
      split at hzz
      · rename_i zv hzv; simp at hzz; exact ⟨i, rfl, zv, hzv, hzz⟩
      · simp at hzz
  have hzs : zv.cells = z.toArray := by rw [← hzc]
  have hfill := fill_fill3 hA hps hp z.toArray
  rw [hf] at hfill
  have hpa : (parts.map (fun p => (p.1, a.eval p.2))).toList = parts.toList.map (fun p => (p.1, a.eval p.2)) := Array.toList_map
  have hfs : fs.mapM (fun f : Field => (do pure (f.offset, ← sizeOf f.type) : Sem (Nat × Nat))) = List.toArray <$> List.mapM (fun f : Field => (do pure (f.offset, ← sizeOf f.type) : Sem (Nat × Nat))) fs.toList := by
    conv => lhs; rw [← Array.toArray_toList (xs := fs)]
    rw [List.mapM_toArray]
  have hrun : (Instr.build t (parts.map (fun p => (p.1, a.eval p.2)))).run P w = .ok (.agg cells.toArray) w := by
    unfold Instr.build
    simp only [Sem.run_bind, zeroValue, typeInfo, run_program, Result.andThen, hi, Sem.run_pure, hzv, hzs, run_underlying hu, hfs, Sem.run_map, places_run w hpl, hpa, hfill]
  simp only [execOp, hop]
  simp only [Sem.run_bind, hrun, Result.andThen, Sem.run_pure]

/-! ### functions without a body: atomic words -/
structure ExtIs (P : Program) (f : FuncId) (fn : Func) (e : Array Value → Sem Value) : Prop where
  func : P.funcs[f]? = some fn
  name : (fn.name == "runtime.NumGoroutine") = false
  body : fn.body.isNone = true
  next : Extern.findNext fn = none
  find : Extern.find fn = some e
theorem ext_run {f : FuncId} {args : List Operand} {vs : List Value} {a : Act} {op : Oper} {r : Result Next} (hco : co P op = some (.ext1 f args)) (hA : Agree N e a) (ha : Env.vals e args = some vs) (hr : (callFunc f vs.toArray).run P w = r) : (execOp a.eval op).run P w = r := by
  obtain ⟨as, ts, hop, h1⟩ := co_ext1 hco
  have hargs : as.map a.eval = vs.toArray := by
    have h2 := hA.vals ha
    rw [← h1] at h2
    apply Array.toList_inj.1
    rw [Array.toList_map]
    exact h2
  have hev : a.eval (.func f) = .func (.func f) #[] #[] := rfl
  simp [execOp, hop, resolve, hargs, hev, Deferred.ofValue, invoke, hr]
theorem g_aload {f : FuncId} {F : Func} {args : List Operand} {kd : IntKind} {ad : Addr} {z : Int} (hf : ExtIs P f F (Extern.Atomic.loadT (.int kd))) (ha : Env.vals e args = some [.pointer (some ad)]) (hc : w.cell? ad = some (.int kd z)) :
    Gives P N (.ext1 f args) e w (.int kd z) :=
  fun _ _ hco hA => ext_run hco hA ha (run_call_load hf.func hf.name hf.body hf.next kd hf.find hc)
theorem d_astore {f : FuncId} {F : Func} {args : List Operand} {kd : IntKind} {b o : Nat} {c : Array Value} {E : TypeId} {z : Int} (hf : ExtIs P f F Extern.Atomic.storeT) (ha : Env.vals e args = some [.pointer (some ⟨b, o, none⟩), .int kd z])
    (h : Sat S w (pt b (.cells c E (0, 0)) :: G)) (ho : o < c.size) :
    Does P N (.ext1 f args) e w (fun v' w' => v' = .tuple #[] ∧ Sat S w' (pt b (.cells (c.setIfInBounds o (.int kd z)) E (0, 0)) :: G)) := by
  intro op a hco hA next Q' hn
  have hcell := cell_of_heap (o := o) h.block (Array.getElem?_eq_getElem ho)
  rw [ext_run hco hA ha (run_call_store hf.func hf.name hf.body hf.next hf.find hcell (frozen_free h.block))]
  exact hn _ _ ⟨rfl, h.setCell _⟩
theorem d_acas {f : FuncId} {F : Func} {args : List Operand} {kd : IntKind} {b o : Nat} {c : Array Value} {E : TypeId} {cur old new : Int} (hf : ExtIs P f F (Extern.Atomic.casT (.int kd))) (ha : Env.vals e args = some [.pointer (some ⟨b, o, none⟩), .int kd old, .int kd new])
    (h : Sat S w (pt b (.cells c E (0, 0)) :: G)) (hc : c[o]? = some (.int kd cur)) :
    Does P N (.ext1 f args) e w (fun v' w' => (v' = .bool true ∧ cur = old ∧ Sat S w' (pt b (.cells (c.setIfInBounds o (.int kd new)) E (0, 0)) :: G)) ∨ (v' = .bool false ∧ cur ≠ old ∧ Sat S w' (pt b (.cells c E (0, 0)) :: G))) := by
  intro op a hco hA next Q' hn
  have hcell := cell_of_heap h.block hc
  by_cases he : cur = old
  · subst he
    rw [ext_run hco hA ha (run_call_cas_hit hf.func hf.name hf.body hf.next kd hf.find hcell (frozen_free h.block))]
    exact hn _ _ (.inl ⟨rfl, rfl, h.setCell _⟩)
  · rw [ext_run hco hA ha (run_call_cas_miss hf.func hf.name hf.body hf.next kd hf.find hcell (frozen_free h.block) he)]
    exact hn _ _ (.inr ⟨rfl, he, h⟩)
theorem d_aadd {f : FuncId} {F : Func} {args : List Operand} {kd : IntKind} {b o : Nat} {c : Array Value} {E : TypeId} {cur y : Int} (hf : ExtIs P f F (Extern.Atomic.update (Op.intArith .add) kd true)) (ha : Env.vals e args = some [.pointer (some ⟨b, o, none⟩), .int kd y])
    (h : Sat S w (pt b (.cells c E (0, 0)) :: G)) (hc : c[o]? = some (.int kd cur)) :
    Does P N (.ext1 f args) e w (fun v' w' => v' = .int kd (kd.wrap (cur + y)) ∧ Sat S w' (pt b (.cells (c.setIfInBounds o (.int kd (kd.wrap (cur + y)))) E (0, 0)) :: G)) := by
  intro op a hco hA next Q' hn
  have hcell := cell_of_heap h.block hc
  rw [ext_run hco hA ha (run_call_add hf.func hf.name hf.body hf.next kd hf.find hcell (frozen_free h.block) (s := kd.wrap (cur + y)) (by simp [Op.intArith]))]
  exact hn _ _ ⟨rfl, h.setCell _⟩
end
theorem wf_u64 {a : Int} (h : (Lit.int .u64 a).wf = true) : 0 ≤ a ∧ a ≤ 18446744073709551615 := by
  have := h
  simp [Lit.wf, IntKind.min, IntKind.max, IntKind.signed, IntKind.bits] at this
  omega
theorem wf_i64 {a : Int} (h : (Lit.int .i64 a).wf = true) : -9223372036854775808 ≤ a ∧ a ≤ 9223372036854775807 := by
  have := h
  simp [Lit.wf, IntKind.min, IntKind.max, IntKind.signed, IntKind.bits] at this
  omega
theorem wf_u8 {a : Int} (h : (Lit.int .u8 a).wf = true) : 0 ≤ a ∧ a ≤ 255 := by
  have := h
  simp [Lit.wf, IntKind.min, IntKind.max, IntKind.signed, IntKind.bits] at this
  omega
/-- An argument: a slice of whole numbers, as it was read. -/
def ArgInts (k : IntKind) (w : World) (a : Option Addr) (len cap : Nat) (zs : List Int) : Prop :=
  (a = none ∧ len = 0 ∧ cap = 0 ∧ zs = []) ∨
  ∃ x, a = some x ∧ len ≤ cap ∧ cap ≤ maxLen ∧ zs.length = cap ∧ (∀ i, i < zs.length → w.cell? (x.add i) = some (.int k (zs.getD i 0))) ∧ ∀ n ∈ zs, (Lit.int k n).wf = true
end Go.HX
