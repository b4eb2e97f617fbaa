/- HX, part F: operations on memory. -/
import Derived.Test.YtjoicobfjpaepaaHxE
namespace Go.HX
open Go Go.RowKit

/-- A slice that owns its block: its elements' cells, then spare room. -/
def ownS (E : TypeId) (n : Nat) (v : Value) (cs : List Value) : HProp := fun H =>
  (v = .slice none 0 0 ∧ cs = [] ∧ emp H) ∨
  ∃ b len cap spare, v = .slice (some ⟨b, 0, none⟩) len cap ∧ cs.length = len * n ∧ len ≤ cap ∧ cap ≤ maxLen ∧ spare.length = (cap - len) * n ∧ pt b (.cells (cs ++ spare).toArray E (0, 0)) H

/-- A slice reads as a list of cells. -/
def RdS (w : World) (n : Nat) (v : Value) (cs : List Value) : Prop :=
  ∃ a len cap, v = .slice a len cap ∧ len ≤ cap ∧ cs.length = len * n ∧ (0 < len → ∃ b o, a = some ⟨b, o, none⟩ ∧ ∀ j u, cs[j]? = some u → w.cell? ⟨b, o + j, none⟩ = some u)

section
variable {P : Program} {fn : FuncId} {N : Nat} {e : Env} {w w' : World} {Q : Value → World → Prop} {k : List XI} {l : List XOp}
variable {S : SP} {G G' : List HProp} {x y : Operand}

theorem cell_of_heap {b o : Nat} {c : Array Value} {E : TypeId} {fr : Nat × Nat} {v : Value} (h : w.heap[b]? = some (.cells c E fr)) (hv : c[o]? = some v) : w.cell? ⟨b, o, none⟩ = some v := by
  simp [World.cell?, h, hv]
theorem Sat.cell {b o : Nat} {c : Array Value} {E : TypeId} {fr : Nat × Nat} {v : Value} (h : Sat S w G) (hh : Has G (pt b (.cells c E fr)) G') (hv : c[o]? = some v) : w.cell? ⟨b, o, none⟩ = some v :=
  cell_of_heap (h.at hh) hv
theorem cell_same {a : Addr} (h : w'.heap[a.block]? = w.heap[a.block]?) : w'.cell? a = w.cell? a := World.cell?_of_block h
theorem block_of_cell {a : Addr} {v : Value} (h : w.cell? a = some v) : a.block < w.heap.size := World.block_lt_of_cell? w a h

/-! loads -/
theorem g_ld {a : Addr} {v : Value} (hx : Env.val e x = some (.pointer (some a))) (hc : w.cell? a = some v) : Gives P N (.ld x none) e w v := by
  intro o c hco hA
  obtain ⟨t, ho, hg⟩ := co_ld hco
  obtain ⟨hg1, _⟩ := agg_run hg w
  simp [execOp, ho, hA.val hx, Instr.loadAt, Instr.sureAddr, loadVar, hg1, hc]
theorem g_ldn {b o n : Nat} {vs : List Value} (hx : Env.val e x = some (.pointer (some ⟨b, o, none⟩))) (hn : vs.length = n) (hc : ∀ j u, vs[j]? = some u → w.cell? ⟨b, o + j, none⟩ = some u) : Gives P N (.ld x (some n)) e w (.agg vs.toArray) := by
  intro o' c hco hA
  obtain ⟨t, ho, hg⟩ := co_ld hco
  obtain ⟨hg1, hg2⟩ := agg_run hg w
  subst hn
  have := run_loadCells_list (P := P) (w := w) ⟨b, o, none⟩ vs (fun j u hj => by rw [addr_add]; exact hc j u hj)
  simp [execOp, ho, hA.val hx, Instr.loadAt, Instr.sureAddr, loadVar, hg1, hg2 _ rfl, this]

/-! stores -/
theorem heap_setCell_eq {b o : Nat} {c : Array Value} {E : TypeId} {fr : Nat × Nat} {v : Value} (h : w.heap[b]? = some (.cells c E fr)) : (w.setCell ⟨b, o, none⟩ v).heap[b]? = some (.cells (c.setIfInBounds o v) E fr) := by
  simp only [World.setCell, Array.getElem?_modify, if_true, h, Option.map_some]
  simp
theorem Sat.setCell {b o : Nat} {c : Array Value} {E : TypeId} {fr : Nat × Nat} (h : Sat S w (pt b (.cells c E fr) :: G)) (v : Value) : Sat S (w.setCell ⟨b, o, none⟩ v) (pt b (.cells (c.setIfInBounds o v) E fr) :: G) :=
  h.write rfl rfl rfl (by simp [World.setCell]) (heap_setCell_eq h.block) (fun i hi hlt => Below.heap_setCell w _ v i hi)
theorem frozen_free {b o : Nat} {c : Array Value} {E : TypeId} (h : w.heap[b]? = some (.cells c E (0, 0))) : w.frozen? ⟨b, o, none⟩ = false := by simp [World.frozen?, h]

theorem d_st {b o : Nat} {c : Array Value} {E : TypeId} {v : Operand} {u : Value} (hx : Env.val e x = some (.pointer (some ⟨b, o, none⟩))) (hv : Env.val e v = some u) (hu : u.oneCell' = true)
    (h : Sat S w (pt b (.cells c E (0, 0)) :: G)) (ho : o < c.size) : Does P N (.st x v 1) e w (fun v' w' => v' = undef ∧ Sat S w' (pt b (.cells (c.setIfInBounds o u) E (0, 0)) :: G)) := by
  intro op a hco hA next Q' hn
  obtain ⟨t, hop, hs⟩ := co_st hco
  have hcell := cell_of_heap (o := o) h.block (Array.getElem?_eq_getElem ho)
  have hcs : u.cells = #[u] := by cases u <;> simp_all [Value.cells, Value.oneCell']
  have hrun : (execOp a.eval op).run P w = .ok .skip (w.setCell ⟨b, o, none⟩ u) := by
    simp [execOp, hop, hA.val hx, hA.val hv, Instr.storeAt, Instr.sureAddr, storeVar, hcs, size_run hs, storeCells, addr_add, run_store P w ⟨b, o, none⟩ u _ hu, hcell, frozen_free h.block]
  rw [hrun]
  exact hn undef _ ⟨rfl, h.setCell u⟩

/-- The cells of an array from o on are those of a list. -/
def setR (c : Array Value) (o : Nat) (vs : List Value) : Array Value := (c.toList.take o ++ vs ++ c.toList.drop (o + vs.length)).toArray

theorem d_stn {b o n : Nat} {c : Array Value} {E : TypeId} {v : Operand} {u : Value} (hx : Env.val e x = some (.pointer (some ⟨b, o, none⟩))) (hv : Env.val e v = some u) (hn : u.cells.size = n) (hu : ∀ q ∈ u.cells.toList, q.oneCell' = true)
    (h : Sat S w (pt b (.cells c E (0, 0)) :: G)) (ho : o + n ≤ c.size) : Does P N (.st x v n) e w (fun v' w' => v' = undef ∧ Sat S w' (pt b (.cells (setR c o u.cells.toList) E (0, 0)) :: G)) := by
  intro op a hco hA next Q' hnx
  obtain ⟨t, hop, hs⟩ := co_st hco
  have hst := run_storeCells_at P b o E u.cells.toList 0 c w h.block (by simp; omega) hu
  simp only [Nat.add_zero] at hst
  have hrun : (execOp a.eval op).run P w = .ok .skip (w.setRow b (setR c o u.cells.toList)) := by
    simp [execOp, hop, hA.val hx, hA.val hv, Instr.storeAt, Instr.sureAddr, storeVar, hn, size_run hs, hst, setR]
  rw [hrun]
  refine hnx undef _ ⟨rfl, h.write rfl rfl rfl (by simp [World.setRow]) (setRow_heap w b c _ E (0, 0) h.block) (fun i hi hlt => ?_)⟩
  simp only [World.setRow, Array.getElem?_modify]
  rw [if_neg (by omega)]

/-! what is made -/
theorem d_box {T : TypeId} {u : Value} (hx : Env.val e x = some u) (h : Sat S w G) : Does P N (.box T x) e w (fun v w' => ∃ b, v = .pointer (some ⟨b, 0, none⟩) ∧ Sat S w' (pt b (.cells u.cells T (0, 0)) :: G)) := by
  intro op a hco hA next Q' hn
  have hop := co_box hco
  have hrun : (execOp a.eval op).run P w = .ok (.value (.pointer (some ⟨w.heap.size, 0, none⟩))) (w.alloc (.cells u.cells T (0, 0))) := by
    simp [execOp, hop, hA.val hx, Instr.box, newVar, newRow]
  rw [hrun]
  exact hn _ _ ⟨_, rfl, h.alloc _⟩
theorem d_new {T : TypeId} {z : Value} (h : Sat S w G) : Does P N (.new T z) e w (fun v w' => ∃ b, v = .pointer (some ⟨b, 0, none⟩) ∧ Sat S w' (pt b (.cells z.cells T (0, 0)) :: G)) := by
  intro op a hco hA next Q' hn
  obtain ⟨i, hop, hi, hz⟩ := co_new hco
  have hrun : (execOp a.eval op).run P w = .ok (.value (.pointer (some ⟨w.heap.size, 0, none⟩))) (w.alloc (.cells z.cells T (0, 0))) := by
    simp [execOp, hop, Instr.alloc, zeroValue, typeInfo, hi, hz, newVar, newRow]
  rw [hrun]
  exact hn _ _ ⟨_, rfl, h.alloc _⟩

/-! calls -/
theorem Ret.wp {f : FuncId} {args : Array Value} {R : Value → World → Prop} {o : Oper} {a : Act} {next : Act → World → Prop} {Q' : Exit → Act → World → Prop} (h : Ret P f args w R) (hn : ∀ v w', R v w' → next (a.put o.dst v) w') :
    o.upon P a next Q' (.ok (.enter f args) w) := by
  rw [Oper.upon_enter]
  refine Calls.mono h ?_
  rintro en w' ⟨v, rfl, hv⟩
  exact hn v w' hv
theorem d_call {f : FuncId} {args : List Operand} {vs : List Value} {R : Value → World → Prop} (ha : Env.vals e args = some vs) (hc : Ret P f vs.toArray w R) : Does P N (.call f args) e w R := by
  intro op a hco hA next Q' hn
  obtain ⟨as, ts, F, c, hop, h1, hF, hb, hnm⟩ := co_call hco
  have hargs : as.map a.eval = vs.toArray := by
    have h2 := hA.vals ha
    rw [← h1] at h2
    apply Array.toList_inj.1
    rw [Array.toList_map]
    exact h2
  have hrun : (execOp a.eval op).run P w = .ok (.enter f vs.toArray) w := by
    have hev : a.eval (.func f) = .func (.func f) #[] #[] := rfl
    simp [execOp, hop, resolve, hargs, hev, Deferred.ofValue, invoke, callFunc, hF, hb]
    exact fun h => by simp [h] at hnm
  rw [hrun]
  exact Ret.wp hc hn
theorem p_call {f : FuncId} {args : List Operand} {vs : List Value} {R : Value → World → Prop} {dst : Option Nat} {g : Option (Nat × Bool)} (hg : wantedE e g = some true) (ha : Env.vals e args = some vs) (hc : Ret P f vs.toArray w R)
    (h : ∀ v w', R v w' → XOps P fn N l k (Env.put e dst v) w' Q) : XOps P fn N (⟨dst, g, .call f args⟩ :: l) k e w Q := p_do hg (d_call ha hc) h

/-! make -/
def zerosA (z : List Value) (n : Nat) : List Value := (List.range n).flatMap (fun _ => z)
theorem zerosA_length (z : List Value) (n : Nat) : (zerosA z n).length = n * z.length := by
  induction n with
  | zero => simp [zerosA]
  | succ n ih => simp only [zerosA, List.range_succ, List.flatMap_append, List.length_append] at ih ⊢; rw [ih]; simp [Nat.add_mul]
theorem zerosA_one (z : Value) (n : Nat) : zerosA [z] n = List.replicate n z := by
  induction n with
  | zero => rfl
  | succ n ih =>
    simp only [zerosA, List.range_succ, List.flatMap_append] at ih ⊢
    rw [ih]
    simp [List.replicate_succ']
theorem mks_zeros (z : List Value) (n : Nat) (hz : z ≠ []) : (Array.range (n * z.length)).map (fun i => z.toArray[i % z.toArray.size]!) = (zerosA z n).toArray := by
  have hp : 0 < z.length := List.length_pos_iff.2 hz
  apply Array.ext
  · simp [zerosA_length]
  · intro i h1 h2
    simp at h1
    have key : ∀ n i, i < n * z.length → (zerosA z n)[i]? = z[i % z.length]? := by
      intro n
      induction n with
      | zero => intro i h; simp at h
      | succ n ih =>
        intro i h
        simp only [zerosA, List.range_succ, List.flatMap_append]
        have hl := zerosA_length z n
        simp only [zerosA] at hl ih
        rw [List.getElem?_append, hl]
        split
        · exact ih i (by assumption)
        · rename_i hge
          have : i - n * z.length = i % z.length := by
            have h3 : i = (i - n * z.length) + z.length * n := by have := Nat.mul_comm z.length n; omega
            conv => rhs; rw [h3, Nat.add_mul_mod_self_left]
            rw [Nat.mod_eq_of_lt]
            rw [Nat.add_mul] at h
            omega
          simp [this]
    have hk := key n i h1
    have hm : i % z.length < z.length := Nat.mod_lt _ hp
    have h3 : i < (zerosA z n).length := by rw [zerosA_length]; exact h1
    rw [List.getElem?_eq_getElem h3, List.getElem?_eq_getElem hm] at hk
    injection hk with hk
    simp [hk, hm]

theorem d_mks {E : TypeId} {sz by' : Nat} {z : List Value} {lo co' : Operand} {ln cp : Int} {k1 k2 : IntKind} (hl : Env.val e lo = some (.int k1 ln)) (hc : Env.val e co' = some (.int k2 cp)) (h0 : 0 ≤ ln) (h1 : ln ≤ cp) (hb : cp * by' ≤ 281474976710656) (hc63 : cp ≤ 9223372036854775807) (hz : z ≠ [])
    (hsz : sz = z.length) (h : Sat S w G) : Does P N (.mks E sz by' z lo co') e w (fun v w' => ∃ b, v = .slice (some ⟨b, 0, none⟩) ln.toNat cp.toNat ∧ Sat S w' (pt b (.cells (zerosA z cp.toNat).toArray E (0, 0)) :: G)) := by
  intro op a hco hA next Q' hn
  obtain ⟨t, hop, he, hs, hby, hzz⟩ := co_mks hco
  obtain ⟨i, hi, hi2, hzi⟩ : ∃ i, P.info? E = some i ∧ i.bytes = by' ∧ ∃ zv, i.zero = some zv ∧ zv.cells.toList = z := by
    unfold bytesAt at hby
    unfold zeroAt at hzz
    cases hi : P.info? E with
    | none => simp [hi] at hby
    | some i =>
      rw [hi] at hby hzz
      simp at hby hzz
      split at hzz
      · rename_i zv hzv; simp at hzz; exact ⟨i, rfl, hby, zv, hzv, hzz⟩
      · simp at hzz
  obtain ⟨zv, hzv, hzc⟩ := hzi
  have hw1 : IntKind.i64.wrap ln = ln := wrap_i64_in (by omega) (by omega)
  have hw2 : IntKind.i64.wrap cp = cp := wrap_i64_in (by omega) (by omega)
  have hzs : zv.cells = z.toArray := by rw [← hzc]
  have hrun : (execOp a.eval op).run P w = .ok (.value (.slice (some ⟨w.heap.size, 0, none⟩) ln.toNat cp.toNat)) (w.alloc (.cells (zerosA z cp.toNat).toArray E (0, 0))) := by
    have hbb : ¬ ((i.bytes : Int) * cp > 281474976710656) := by rw [hi2, Int.mul_comm]; omega
    have hn1 : ¬ cp < 0 := by omega
    have hn2 : ¬ ln < 0 := by omega
    have hn3 : ¬ ln > cp := by omega
    simp only [execOp, hop, hA.val hl, hA.val hc, Instr.makeSlice, asInt, asIntOf]
    simp only [Sem.run_bind, run_underlying (elem_und he), Sem.run_pure, Result.andThen, typeInfo, run_program, hi]
    simp only [Sem.run_ite, hw1, hw2]
    simp [hbb, hn1, hn2, hn3, size_run hs, zeroValue, typeInfo, hi, hzv, hzs, newRow]
    have hmk := mks_zeros z cp.toNat hz
    have hzl : 0 < z.length := List.length_pos_iff.2 hz
    simp at hmk
    rw [← hsz] at hmk
    rcases Nat.eq_zero_or_pos cp.toNat with hcz | hcz
    · have hr0 : Array.range 0 = #[] := by apply Array.ext <;> simp
      simp [hcz, zerosA, hr0]
    · have : ¬ cp.toNat * sz = 0 := by
        intro h'
        rcases Nat.mul_eq_zero.1 h' with h' | h' <;> omega
      rw [if_neg this, hsz] at *
      rw [← hmk, hsz]
  rw [hrun]
  exact hn _ _ ⟨_, rfl, h.alloc _⟩

/-! reslicing -/
def slB (e : Env) : Option Operand → Option (Option Int)
  | none => some none
  | some x => match Env.val e x with
    | some (.int _ n) => some (some n)
    | _ => none
theorem slB_run {lo : Option Operand} {v : Option Int} {a : Act} (h : slB e lo = some v) (hA : Agree N e a) : (v = none ∧ lo.map a.eval = none) ∨ ∃ n kd, v = some n ∧ lo.map a.eval = some (.int kd n) := by
  cases lo with
  | none => simp [slB] at h; exact .inl ⟨h.symm, rfl⟩
  | some x =>
    simp only [slB] at h
    split at h
    · rename_i kd n hx; simp at h; exact .inr ⟨n, kd, h.symm, by simp [hA.val hx]⟩
    · simp at h
/-- x[lo:hi] of a slice -/
theorem g_slc {s : Nat} {lo hi : Option Operand} {a : Option Addr} {len cap : Nat} {ol oh : Option Int} {l' h' : Nat} (hx : Env.val e x = some (.slice a len cap)) (hlo : slB e lo = some ol) (hhi : slB e hi = some oh)
    (hl : ((l' : Nat) : Int) = ol.getD 0) (hh : ((h' : Nat) : Int) = oh.getD len) (h1 : l' ≤ h') (h2 : h' ≤ cap) :
    Gives P N (.slc s x lo hi) e w (.slice (if cap = l' then a else a.map (·.add (l' * s))) (h' - l') (cap - l')) := by
  intro op ac hco hA
  obtain ⟨t, E, hop, he, hs⟩ := co_slc hco
  have h5 := slB_run hlo hA
  have h6 := slB_run hhi hA
  have hh2 : (Instr.sliceBounds true len cap (lo.map ac.eval) (hi.map ac.eval) none).run P w = .ok (l', h', cap) w := by
    rcases h5 with ⟨rfl, h5⟩ | ⟨n, kd, rfl, h5⟩ <;> rcases h6 with ⟨rfl, h6⟩ | ⟨m, kd', rfl, h6⟩ <;> simp at hl hh <;> rw [h5, h6]
    · obtain rfl : l' = 0 := by omega
      obtain rfl : h' = len := by omega
      simp [Instr.sliceBounds]
    · obtain rfl : l' = 0 := by omega
      have q1 : 0 ≤ m ∧ m ≤ cap := by omega
      have q2 : m.toNat = h' := by omega
      simp [Instr.sliceBounds, Instr.sliceBound, asIntOf, q1, q2]
    · obtain rfl : h' = len := by omega
      have q1 : 0 ≤ n ∧ n ≤ h' := by omega
      have q2 : n.toNat = l' := by omega
      simp [Instr.sliceBounds, Instr.sliceBound, asIntOf, q1, q2]
    · have q1 : 0 ≤ m ∧ m ≤ cap := by omega
      have q2 : m.toNat = h' := by omega
      have q3 : 0 ≤ n ∧ n ≤ h' := by omega
      have q4 : n.toNat = l' := by omega
      simp [Instr.sliceBounds, Instr.sliceBound, asIntOf, q1, q2, q3, q4]
  simp [execOp, hop, hA.val hx, Instr.sliceAt, Instr.slice, run_underlying (elem_und he), hh2, size_run hs]
/-- s[lo:hi] of a string -/
theorem g_sls {lo hi : Option Operand} {s : ByteArray} {ol oh : Option Int} {l' h' : Nat} (hx : Env.val e x = some (.string s)) (hlo : slB e lo = some ol) (hhi : slB e hi = some oh)
    (hl : ((l' : Nat) : Int) = ol.getD 0) (hh : ((h' : Nat) : Int) = oh.getD s.size) (h1 : l' ≤ h') (h2 : h' ≤ s.size) :
    Gives P N (.sls x lo hi) e w (.string (s.extract l' h')) := by
  intro op ac hco hA
  obtain ⟨t, hop, he⟩ := co_sls hco
  have h5 := slB_run hlo hA
  have h6 := slB_run hhi hA
  have hh2 : (Instr.sliceBounds false s.size s.size (lo.map ac.eval) (hi.map ac.eval) none).run P w = .ok (l', h', s.size) w := by
    rcases h5 with ⟨rfl, h5⟩ | ⟨n, kd, rfl, h5⟩ <;> rcases h6 with ⟨rfl, h6⟩ | ⟨m, kd', rfl, h6⟩ <;> simp at hl hh <;> rw [h5, h6]
    · obtain rfl : l' = 0 := by omega
      obtain rfl : h' = s.size := by omega
      simp [Instr.sliceBounds]
    · obtain rfl : l' = 0 := by omega
      have q1 : 0 ≤ m ∧ m ≤ s.size := by omega
      have q2 : m.toNat = h' := by omega
      simp [Instr.sliceBounds, Instr.sliceBound, asIntOf, q1, q2]
    · obtain rfl : h' = s.size := by omega
      have q1 : 0 ≤ n ∧ n ≤ s.size := by omega
      have q2 : n.toNat = l' := by omega
      simp [Instr.sliceBounds, Instr.sliceBound, asIntOf, q1, q2]
    · have q1 : 0 ≤ m ∧ m ≤ s.size := by omega
      have q2 : m.toNat = h' := by omega
      have q3 : 0 ≤ n ∧ n ≤ h' := by omega
      have q4 : n.toNat = l' := by omega
      simp [Instr.sliceBounds, Instr.sliceBound, asIntOf, q1, q2, q3, q4]
  simp [execOp, hop, hA.val hx, Instr.sliceAt, Instr.slice, run_underlying (str_und he), hh2]

/-! append -/
theorem ownS_row {E : TypeId} {n : Nat} {v : Value} {cs : List Value} (h : Sat S w (ownS E n v cs :: G)) : ∃ len, w.ownsRow S.base E n v len cs := by
  obtain ⟨H, ⟨H1, H2, a, _, d, rfl⟩, ho⟩ := h.own
  rcases a with ⟨rfl, rfl, _⟩ | ⟨b, len, cap, spare, rfl, hl, h1, h2, h3, hp⟩
  · exact ⟨0, World.ownsRow_nil _ _ _ _⟩
  · unfold pt at hp
    subst hp
    obtain ⟨hb, hge⟩ := ho b (.cells (cs ++ spare).toArray E (0, 0)) (by simp [Hun])
    refine ⟨len, hl, .inr ⟨b, cap, _, rfl, hge, hb, h1, h2, ?_, ?_⟩⟩
    · simp [hl, h3, ← Nat.add_mul]; congr 1; omega
    · simp [← hl]
theorem row_ownS {base E n len : Nat} {v : Value} {cs : List Value} (h : w.ownsRow base E n v len cs) :
    (v = .slice none 0 0 ∧ cs = []) ∨ ∃ b cap spare, v = .slice (some ⟨b, 0, none⟩) len cap ∧ cs.length = len * n ∧ len ≤ cap ∧ cap ≤ maxLen ∧ spare.length = (cap - len) * n ∧ base ≤ b ∧ w.heap[b]? = some (.cells (cs ++ spare).toArray E (0, 0)) := by
  obtain ⟨hl, h⟩ := h
  rcases h with ⟨rfl, rfl⟩ | ⟨b, cap, cur, rfl, hb, hg, h1, h2, h3, h4⟩
  · exact .inl ⟨rfl, List.eq_nil_of_length_eq_zero (by omega)⟩
  · refine .inr ⟨b, cap, cur.toList.drop (len * n), rfl, hl, h1, h2, ?_, hb, ?_⟩
    · simp [h3, Nat.sub_mul]
    · rw [← h4, List.take_append_drop]; simpa using hg

theorem Sat.grown {E : TypeId} {n len : Nat} {v v' : Value} {cs cs' : List Value} (h : Sat S w (ownS E n v cs :: G)) (hr : w'.ownsRow S.base E n v' len cs') (hg : w.grownBy w' v.ownBlock) (hat : v'.ownBlock = v.ownBlock ∨ ∃ b, v'.ownBlock = some b ∧ w.heap.size ≤ b) :
    Sat S w' (ownS E n v' cs' :: G) := by
  have hrow := ownS_row h
  obtain ⟨len0, hrow⟩ := hrow
  obtain ⟨H, ⟨H1, H2, a, g, d, rfl⟩, ho⟩ := h.own
  have hlt : ∀ i, i < S.base → i < w.heap.size := fun i hi => Nat.lt_of_lt_of_le hi (Nat.le_trans h.le h.below.size)
  have hvb : ∀ b, v.ownBlock = some b → S.base ≤ b := fun b hb => (hrow.lt b hb).1
  have hbelow : Below S.base S.w0 w' := h.below.trans ⟨hg.os, hg.tape, hg.output, hg.size, fun i hi => hg.block i (hlt i hi) (fun he => by have := hvb i he.symm; omega)⟩
  -- the block of the slice is none of the rest's
  have hout : ∀ i o, H2 i = some o → v.ownBlock ≠ some i := by
    intro i o hi he
    rcases a with ⟨rfl, rfl, _⟩ | ⟨b, len, cap, spare, rfl, hl, h1, h2, h3, hp⟩
    · simp [Value.ownBlock] at he
    · simp [Value.ownBlock] at he
      subst he
      unfold pt at hp
      subst hp
      rcases d b with h' | h'
      · simp at h'
      · rw [h'] at hi; cases hi
  have hrest : ∀ i o, H2 i = some o → w'.heap[i]? = some o ∧ S.base ≤ i ∧ i < w.heap.size := by
    intro i o hi
    have h1 : Hun H1 H2 i = some o := by
      unfold Hun
      rcases d i with h' | h'
      · rw [h']; exact hi
      · rw [h'] at hi; cases hi
    obtain ⟨h2, h3⟩ := ho i o h1
    have h4 := (Array.getElem?_eq_some_iff.1 h2).1
    exact ⟨by rw [hg.block i h4 (fun he => hout i o hi he.symm)]; exact h2, h3, h4⟩
  rcases row_ownS hr with ⟨rfl, rfl⟩ | ⟨b, cap, spare, rfl, hl, h1, h2, h3, hb, hh⟩
  · refine ⟨hbelow, h.le, Hun (fun _ => none) H2, ⟨_, H2, .inl ⟨rfl, rfl, rfl⟩, g, fun i => .inl rfl, rfl⟩, fun i o hi => ?_⟩
    simp [Hun] at hi
    exact ⟨(hrest i o hi).1, (hrest i o hi).2.1⟩
  · refine ⟨hbelow, h.le, Hun (fun i => if i = b then some (.cells (cs' ++ spare).toArray E (0, 0)) else none) H2, ⟨_, H2, .inr ⟨b, len, cap, spare, rfl, hl, h1, h2, h3, rfl⟩, g, fun i => ?_, rfl⟩, fun i o hi => ?_⟩
    · by_cases hib : i = b
      · subst hib
        refine .inr ?_
        cases hi : H2 i with
        | none => rfl
        | some o =>
          exfalso
          rcases hat with hat | ⟨b', hb', hle⟩
          · exact hout i o hi (by rw [← hat]; simp [Value.ownBlock])
          · simp [Value.ownBlock] at hb'
            subst hb'
            have := (hrest i o hi).2.2
            omega
      · exact .inl (by simp [hib])
    · unfold Hun at hi
      by_cases hib : i = b
      · subst hib
        simp at hi
        subst hi
        exact ⟨hh, hb⟩
      · simp [hib] at hi
        exact ⟨(hrest i o hi).1, (hrest i o hi).2.1⟩

/-- append of news to a slice that owns its block; what is appended lies anywhere, and is read. -/
theorem d_app {E : TypeId} {n by' : Nat} {z : List Value} {s : Operand} {v : Value} {cs news : List Value} {ax : Option Addr} {m cx : Nat} (hs : Env.val e s = some v) (hx : Env.val e x = some (.slice ax m cx)) (hz : z.length = n) (hn0 : 0 < n)
    (h : Sat S w (ownS E n v cs :: G)) (hl : news.length = m * n) (hnews : 0 < m → ∃ b o, ax = some ⟨b, o, none⟩ ∧ ∀ j u, news[j]? = some u → w.cell? ⟨b, o + j, none⟩ = some u) (h1 : ∀ u ∈ news, u.oneCell' = true)
    (hsz : (cs.length + news.length) * by' ≤ 140737488355328 * n) (h63 : cs.length + news.length ≤ 9223372036854775807) :
    Does P N (.app E n by' z s x) e w (fun v' w' => Sat S w' (ownS E n v' (cs ++ news) :: G)) := by
  intro op a hco hA next Q' hnx
  obtain ⟨as, ts, t, hop, ha1, ha2, he, hsz', hby, hzz⟩ := co_app hco
  obtain ⟨i, hi, hi2, zv, hzi, hzc⟩ : ∃ i, P.info? E = some i ∧ i.bytes = by' ∧ ∃ zv, i.zero = some zv ∧ zv.cells.toList = z := by
    unfold bytesAt at hby
    unfold zeroAt at hzz
    cases hi : P.info? E with
    | none => simp [hi] at hby
    | some i =>
      rw [hi] at hby hzz
      simp at hby hzz
      split at hzz
      · rename_i zv hzv; simp at hzz; exact ⟨i, rfl, hby, zv, hzv, hzz⟩
      · simp at hzz
  have hisz : i.size = n := by
    unfold sizeAt at hsz'
    rw [hi] at hsz'; simpa using hsz'
  obtain rfl : as = #[s, x] := by cases as; simp_all
  obtain rfl : ts = #[t, t] := by cases ts; simp_all
  have het := elem_und he
  subst hisz
  have hzs : zv.cells.size = i.size := by rw [← hz, ← hzc]; simp
  obtain ⟨len, hrow⟩ := ownS_row h
  have hcl : cs.length = len * i.size := hrow.1
  have hb2 : (len + m) * by' ≤ 140737488355328 := by
    rw [hcl, hl, ← Nat.add_mul, Nat.mul_right_comm] at hsz
    exact Nat.le_of_mul_le_mul_right hsz hn0
  have hlm : len + m ≤ maxLen := by
    unfold maxLen
    rw [hcl, hl, ← Nat.add_mul] at h63
    have : len + m ≤ (len + m) * i.size := Nat.le_mul_of_pos_right _ hn0
    omega
  have hsmall : len + m ≤ 9223372036854775807 := by simp only [maxLen] at hlm; omega
  -- what the call comes to
  have fin : ∀ {v' : Value} {w' : World}, (Builtin.append_ #[t, t] op.type #[v, .slice ax m cx]).run P w = .ok v' w' → (execOp a.eval op).run P w = .ok (.value v') w' := by
    intro v' w' hr
    simp [execOp, hop, resolve, invoke, builtin, hA.val hs, hA.val hx, hr]
  cases hax : ax with
  | none =>
    have hm0 : m = 0 := by
      rcases Nat.eq_zero_or_pos m with h0 | h0
      · exact h0
      · obtain ⟨b, o, hb, _⟩ := hnews h0; rw [hax] at hb; cases hb
    subst hm0
    have hnil : news = [] := List.eq_nil_of_length_eq_zero (by simpa using hl)
    subst hnil
    subst hax
    rcases row_ownS hrow with ⟨rfl, rfl⟩ | ⟨b, cap, spare, rfl, hl', h1', h2', h3', hb', hh'⟩
    · rw [fin (v' := .slice none 0 0) (w' := w) (by simp [Builtin.append_, run_underlying het, sizeOf, typeInfo, hi, Builtin.lenOf, Builtin.firstCells])]
      exact hnx _ _ (by simpa using h)
    · rw [fin (v' := .slice (some ⟨b, 0, none⟩) len cap) (w' := w) (by simp [Builtin.append_, run_underlying het, sizeOf, typeInfo, hi, Builtin.lenOf, Builtin.firstCells, h1', storeCells])]
      exact hnx _ _ (by simpa using h)
  | some ad =>
    subst hax
    have hnews' : ∀ j u, news[j]? = some u → w.cell? (ad.add j) = some u := by
      rcases Nat.eq_zero_or_pos m with h0 | h0
      · subst h0
        have hnil : news = [] := List.eq_nil_of_length_eq_zero (by simpa using hl)
        subst hnil
        intro j u hj; simp at hj
      · obtain ⟨b, o, hb, hr⟩ := hnews h0
        simp at hb
        subst hb
        intro j u hj
        rw [addr_add]; exact hr j u hj
    -- a new block
    have grow : ∀ (old : Nat), old < len + m → ∀ (G1 : List HProp), Sat S w G1 →
        Sat S (w.drew.alloc (.cells (cs.toArray ++ news.toArray ++ Builtin.zeroCells zv.cells (grownCap w (len + m) old E - (len + m))) E)) (ownS E i.size (.slice (some ⟨w.heap.size, 0, none⟩) (len + m) (grownCap w (len + m) old E)) (cs ++ news) :: G1) := by
      intro old ho G1 hG1
      have hge := grownCap_ge w (len + m) old E
      have hcm : grownCap w (len + m) old E ≤ maxLen := grownCap_le_maxLen w (len + m) old E hlm
      refine (hG1.drew.alloc _).mono (fun H hH => .inr ⟨w.heap.size, len + m, grownCap w (len + m) old E, (Builtin.zeroCells zv.cells (grownCap w (len + m) old E - (len + m))).toList, rfl, by rw [List.length_append, hcl, hl, Nat.add_mul], hge, hcm, by rw [Array.length_toList, size_zeroCells, hzs], ?_⟩)
      have hc : cs.toArray ++ news.toArray ++ Builtin.zeroCells zv.cells (grownCap w (len + m) old E - (len + m)) = (cs ++ news ++ (Builtin.zeroCells zv.cells (grownCap w (len + m) old E - (len + m))).toList).toArray := by
        apply Array.toList_inj.1; simp
      rw [← hc]
      exact hH
    have hown := ownS_row h
    rcases row_ownS hrow with ⟨rfl, rfl⟩ | ⟨b, cap, spare, rfl, hl', h1', h2', h3', hb', hh'⟩
    · have hlen0 : len = 0 := by
        have h0 : len * i.size = 0 := by rw [← hcl]; rfl
        rcases Nat.mul_eq_zero.1 h0 with h' | h' <;> omega
      subst hlen0
      rcases Nat.eq_zero_or_pos m with h0 | h0
      · subst h0
        have hnil : news = [] := List.eq_nil_of_length_eq_zero (by simpa using hl)
        subst hnil
        rw [fin (v' := .slice none 0 0) (w' := w) (by simp [Builtin.append_, run_underlying het, sizeOf, typeInfo, hi, Builtin.lenOf, Builtin.firstCells, loadCells, loadCellsFrom])]
        exact hnx _ _ (by simpa using h)
      · have hr := run_append_nil (P := P) w t op.type E i zv het hi hzi ad m cx news hl hnews' h0 (by omega) (by rw [hi2]; simp only [Nat.zero_add] at hb2; omega)
        rw [fin hr]
        have := grow 0 (by omega) G h.drop
        simp only [Nat.zero_add, List.nil_append, Array.empty_append] at this
        exact hnx _ _ (by simpa using this)
    · by_cases hroom : len + m ≤ cap
      · have hcs : (cs ++ spare).toArray.size = cap * i.size := by
          simp only [List.size_toArray, List.length_append, hl', h3', ← Nat.add_mul]
          congr 1; omega
        have hfit : len * i.size + news.length ≤ (cs ++ spare).toArray.size := by rw [hl, hcs, ← Nat.add_mul]; exact Nat.mul_le_mul_right _ hroom
        have hr := run_append_room (P := P) w t op.type E i het hi b len cap _ hh' ad m cx news hl hnews' h1 hroom hfit
        rw [fin hr]
        refine hnx _ _ ?_
        -- the block, written
        have hopen : Sat S w (pt b (.cells (cs ++ spare).toArray E (0, 0)) :: G) := by
          obtain ⟨H, ⟨H1, H2, aa, g, d, rfl⟩, ho⟩ := h.own
          refine ⟨h.below, h.le, _, ⟨H1, H2, ?_, g, d, rfl⟩, ho⟩
          rcases aa with ⟨h', _⟩ | ⟨b', len', cap', spare', he', hl2, _, _, _, hp⟩
          · cases h'
          · simp at he'
            obtain ⟨rfl, rfl, rfl⟩ := he'
            have hp' := hp
            unfold pt at hp ⊢
            have h9 := (ho b (.cells (cs ++ spare').toArray E (0, 0)) (by simp [Hun, hp])).1
            rw [hh'] at h9
            simp at h9
            rw [hp, h9]
        have hsame : ∀ q, q ≠ b → q < w.heap.size → (w.setRow b ((cs ++ spare).toArray.toList.take (len * i.size) ++ news ++ (cs ++ spare).toArray.toList.drop (len * i.size + news.length)).toArray).heap[q]? = w.heap[q]? := by
          intro k hk hlt
          simp only [World.setRow, Array.getElem?_modify]
          rw [if_neg (by omega)]
        refine (hopen.write (w' := w.setRow b _) rfl rfl rfl (by simp [World.setRow]) (setRow_heap w b _ _ E (0, 0) hh') hsame).mono (fun H hH => .inr ⟨b, len + m, cap, spare.drop news.length, rfl, by rw [List.length_append, hcl, hl, Nat.add_mul], hroom, h2', ?_, ?_⟩)
        · rw [List.length_drop, h3', hl, ← Nat.sub_mul]; congr 1; omega
        · have he : (cs ++ spare).toArray.toList.take (len * i.size) ++ news ++ (cs ++ spare).toArray.toList.drop (len * i.size + news.length) = cs ++ news ++ spare.drop news.length := by
            simp only [← hl', List.take_left']
            rw [List.drop_append]
            simp
          rw [he] at hH
          exact hH
      · have holds : ∀ j u, cs[j]? = some u → w.cell? ((⟨b, 0, none⟩ : Addr).add j) = some u := by
          intro j u hj
          rw [addr_add, Nat.zero_add]
          refine cell_of_heap hh' ?_
          simp [List.getElem?_append_left (List.getElem?_eq_some_iff.1 hj).1, hj]
        have hr := run_append_grow (P := P) w t op.type E i zv het hi hzi ⟨b, 0, none⟩ len cap cs hcl holds ad m cx news hl hnews' (by omega) (by omega) (growslice_fits (by omega) (by rw [hi2]; exact hb2))
        rw [fin hr]
        exact hnx _ _ (grow cap (by omega) G h.drop)
end
end Go.HX
