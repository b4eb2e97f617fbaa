/- HX, part Q: functions as values, arrays, maps. -/
import Derived.Test.YtjoicobfjpaepaaHxO
namespace Go.HX
open Go Go.RowKit
/-- A function with a body. -/
def bodyOk (P : Program) (f : FuncId) : Bool := match P.funcs[f]? with
  | some fn => fn.body.isSome && !(fn.name == "runtime.NumGoroutine")
  | none => false
theorem map_vals {N : Nat} {e : Env} {a : Act} (hA : Agree N e a) {as : Array Operand} {vs : List Value} (ha : Env.vals e as.toList = some vs) : as.map a.eval = vs.toArray := by
  have := hA.vals ha
  apply Array.toList_inj.1
  rw [Array.toList_map]
  exact this
section
variable {P : Program} {fn : FuncId} {N : Nat} {e : Env} {w w' : World} {Q : Value → World → Prop} {k : List XI} {l : List XOp}
variable {S : SP} {G G' : List HProp} {x y : Operand}
variable {es : List (List Nat)} {B : List Nat} {ws m : Nat} {R : Rec} {todo : List (Nat × XOp)} {i0 : Nat} {dst : Option Nat} {g : Option (Nat × Bool)} {t : TypeId}
/-- A call of a function that is a value. -/
theorem d_cv {f : FuncId} {fs cs : Array Value} {args : List Operand} {vs : List Value} {R : Value → World → Prop} (hx : Env.val e x = some (.func (.func f) fs cs)) (hb : bodyOk P f = true) (ha : Env.vals e args = some vs) (hc : Ret P f (fs ++ vs.toArray ++ cs) w R) :
    Does P N (.more (.cv x args)) e w R := by
  intro op a hco hA next Q' hn
  obtain ⟨as, ts, hop, rfl⟩ := co2_cv (co_2 hco)
  have hargs := map_vals hA ha
  have hrun : (execOp a.eval op).run P w = .ok (.enter f (fs ++ vs.toArray ++ cs)) w := by
    unfold bodyOk at hb
    split at hb
    · rename_i F hF
      simp at hb
      obtain ⟨h1, h2⟩ := hb
      obtain ⟨c, hc⟩ := Option.isSome_iff_exists.1 h1
      simp [execOp, hop, resolve, hargs, hA.val hx, Deferred.ofValue, invoke, callFunc, hF, hc]
      exact fun h => absurd h h2
    · cases hb
  rw [hrun]
  exact Ret.wp hc hn
theorem p_cv {f : FuncId} {fs cs : Array Value} {args : List Operand} {vs : List Value} {R : Value → World → Prop} (hg : wantedE e g = some true) (hx : Env.val e x = some (.func (.func f) fs cs)) (hb : bodyOk P f = true) (ha : Env.vals e args = some vs) (hc : Ret P f (fs ++ vs.toArray ++ cs) w R)
    (h : ∀ v w', R v w' → XOps P fn N l k (Env.put e dst v) w' Q) : XOps P fn N (⟨dst, g, .more (.cv x args)⟩ :: l) k e w Q := p_do hg (d_cv hx hb ha hc) h
/-- A literal of an array. -/
theorem g_bla {z : List Value} {s : Nat} {ps : List (Nat × Operand)} {vs : List (Nat × Value)} {cells : List Value} (hp : Env.parts e ps = some vs) (hf : fillL (fun i => some (i * s, s)) z vs = some cells) : Gives P N (.more (.bla z s ps)) e w (.agg cells.toArray) := by
  intro op a hco hA
  obtain ⟨t, n, el, parts, hop, hu, hzz, hs, rfl⟩ := co2_bla (co_2 hco)
  obtain ⟨i, hi, zv, hzv, hzc⟩ : ∃ i, P.info? t = some i ∧ ∃ zv, i.zero = some zv ∧ zv.cells.toList = z := by
    unfold zeroAt at hzz
    cases hi : P.info? t with
    | none => simp [hi] at hzz
    | some i =>
      rw [hi] at hzz
      simp at hzz
      split at hzz
      · rename_i zv hzv; simp at hzz; exact ⟨i, rfl, zv, hzv, hzz⟩
      · simp at hzz
  have hpa : (parts.map (fun p => (p.1, a.eval p.2))).toList = vs := by rw [Array.toList_map]; exact hA.parts hp
  have hf2 := fill_fillL _ vs z cells hf
  have hzs : zv.cells = z.toArray := by rw [← hzc]
  simp only [execOp, hop, Instr.build]
  simp [zeroValue, typeInfo, hi, hzv, hzs, run_underlying hu, size_run hs]
  simp at hpa
  simp [hpa, hf2]
/-- Bits of two ints that are no negative ones. -/
theorem g_and_i {a b : Int} (hx : Env.val e x = some (.int .i64 a)) (hy : Env.val e y = some (.int .i64 b)) (a0 : 0 ≤ a) (a1 : a ≤ 9223372036854775807) (b0 : 0 ≤ b) (b1 : b ≤ 9223372036854775807) : Gives P N (.bin .and t x y) e w (.int .i64 ((a.toNat &&& b.toNat : Nat) : Int)) := by
  refine bin_run hx hy (by simp) (fun w => ?_)
  have h3 : a.toNat &&& b.toNat < 2 ^ 63 := Nat.and_lt_two_pow _ (by omega)
  have hh : (BitVec.ofInt 64 a &&& BitVec.ofInt 64 b).toNat = a.toNat &&& b.toNat := by rw [BitVec.toNat_and, ofInt_toNat64 a0 (by omega), ofInt_toNat64 b0 (by omega)]
  show Result.ok (Value.int .i64 (IntKind.i64.wrap ((BitVec.ofInt 64 a &&& BitVec.ofInt 64 b).toNat : Int))) w = _
  rw [hh, wrap_i64_in (by omega) (by omega)]
/-- An element of an array that is a value. -/
theorem g_ixa {n s : Nat} {i : Operand} {cs : Array Value} {kd : IntKind} {j : Int} {v : Value} (hx : Env.val e x = some (.agg cs)) (hi : Env.val e i = some (.int kd j)) (h0 : 0 ≤ j) (h1 : j < n) (hv : cs[j.toNat * s]? = some v) : Gives P N (.more (.ixa n s none x i)) e w v := by
  intro op a hco hA
  obtain ⟨t, el, hop, hu, hs, hg⟩ := co2_ixa (co_2 hco)
  obtain ⟨hg1, _⟩ := agg_run hg w
  simp only [execOp, hop, Instr.index, hA.val hx, hA.val hi, asIntOf]
  simp [run_underlying hu, h0, h1, size_run hs, part, hg1, hv]
/-- A variable gets another value, whole. -/
theorem d_stw {b n : Nat} {c : Array Value} {E : TypeId} {v : Operand} {u : Value} (hx : Env.val e x = some (.pointer (some ⟨b, 0, none⟩))) (hv : Env.val e v = some u) (hn : u.cells.size = n) (hc : c.size = n) (hu : u.cells.toList.all Value.oneCell' = true)
    (h : Sat S w (pt b (.cells c E (0, 0)) :: G)) : Does P N (.st x v n) e w (fun v' w' => v' = undef ∧ Sat S w' (pt b (.cells u.cells E (0, 0)) :: G)) := by
  refine (d_stn hx hv hn (fun q hq => List.all_eq_true.1 hu q hq) h (by omega)).mono ?_
  rintro v' w' ⟨rfl, h⟩
  have e : setR c 0 u.cells.toList = u.cells := by
    unfold setR
    rw [List.drop_of_length_le (by simp; omega)]
    simp
  rw [e] at h
  exact ⟨rfl, h⟩
theorem d_stL {b o : Nat} {cs cs' : List Value} {E : TypeId} {v : Operand} {u : Value} (hx : Env.val e x = some (.pointer (some ⟨b, o, none⟩))) (hv : Env.val e v = some u) (hu : u.oneCell' = true)
    (h : Sat S w (pt b (.cells cs.toArray E (0, 0)) :: G)) (ho : o < cs.length) (hs : cs.set o u = cs') : Does P N (.st x v 1) e w (fun v' w' => v' = undef ∧ Sat S w' (pt b (.cells cs'.toArray E (0, 0)) :: G)) := by
  refine (d_st hx hv hu h (by simpa using ho)).mono ?_
  rintro v' w' ⟨rfl, h⟩
  rw [List.setIfInBounds_toArray, hs] at h
  exact ⟨rfl, h⟩
theorem d_boxL {T : TypeId} {u : Value} {c : Array Value} (hx : Env.val e x = some u) (h : Sat S w G) (hc : u.cells = c) : Does P N (.box T x) e w (fun v w' => ∃ b, v = .pointer (some ⟨b, 0, none⟩) ∧ Sat S w' (pt b (.cells c T (0, 0)) :: G)) := by
  subst hc
  exact d_box hx h
theorem d_newL {T : TypeId} {z : Value} {c : Array Value} (h : Sat S w G) (hc : z.cells = c) : Does P N (.new T z) e w (fun v w' => ∃ b, v = .pointer (some ⟨b, 0, none⟩) ∧ Sat S w' (pt b (.cells c T (0, 0)) :: G)) := by
  subst hc
  exact d_new h
theorem d_stwL {b n : Nat} {c c' : Array Value} {E : TypeId} {v : Operand} {u : Value} (hx : Env.val e x = some (.pointer (some ⟨b, 0, none⟩))) (hv : Env.val e v = some u) (hn : u.cells.size = n) (hc : c.size = n) (hu : u.cells.toList.all Value.oneCell' = true)
    (h : Sat S w (pt b (.cells c E (0, 0)) :: G)) (hc' : u.cells = c') : Does P N (.st x v n) e w (fun v' w' => v' = undef ∧ Sat S w' (pt b (.cells c' E (0, 0)) :: G)) := by
  subst hc'
  exact d_stw hx hv hn hc hu h
theorem gN {T : TypeId} {z : Value} (h : XOps P fn N (⟨dst, g, .new T z⟩ :: l) k e w Q) : XOps P fn N (⟨dst, g, .new T z⟩ :: l) k e w Q := h
theorem gBx {T : TypeId} (h : XOps P fn N (⟨dst, g, .box T x⟩ :: l) k e w Q) : XOps P fn N (⟨dst, g, .box T x⟩ :: l) k e w Q := h
theorem gS {n : Nat} (h : XOps P fn N (⟨dst, g, .st x y n⟩ :: l) k e w Q) : XOps P fn N (⟨dst, g, .st x y n⟩ :: l) k e w Q := h
theorem gSR {n : Nat} (h : XDr P fn N es B ws R ((i0, ⟨dst, g, .st x y n⟩) :: todo) m k e w Q) : XDr P fn N es B ws R ((i0, ⟨dst, g, .st x y n⟩) :: todo) m k e w Q := h
theorem gNR {T : TypeId} {z : Value} (h : XDr P fn N es B ws R ((i0, ⟨dst, g, .new T z⟩) :: todo) m k e w Q) : XDr P fn N es B ws R ((i0, ⟨dst, g, .new T z⟩) :: todo) m k e w Q := h
theorem gBxR {T : TypeId} (h : XDr P fn N es B ws R ((i0, ⟨dst, g, .box T x⟩) :: todo) m k e w Q) : XDr P fn N es B ws R ((i0, ⟨dst, g, .box T x⟩) :: todo) m k e w Q := h
/-! ### maps -/
/-- How the keys of a map are told apart. -/
structure KeyOK (P : Program) (k : TypeId) {κ : Type} [DecidableEq κ] (enc : κ → Value) : Prop where
  check : ∀ (b : Bool) (v : κ) (w : World), (Instr.checkKey b 10000 k (enc v)).run P w = .ok () w
  find : ∀ (v : κ) (es : List MapEntry) (ks : List κ) (w : World), es.map (·.key) = ks.map enc → (Instr.findKey k (enc v) es).run P w = .ok (((ks.findIdx? (fun x => decide (x = v))).bind (fun i => (es[i]?).map (fun en => (i, en.val))))) w
  same : ∀ (v : κ), Instr.sameBits 10000 (enc v) (enc v) = true
theorem findNow_idx {κ : Type} [DecidableEq κ] {enc : κ → Value} {d : TypeDesc} (hs : ∀ a b, Instr.sameNow d (enc a) (enc b) = some (decide (a = b))) (v : κ) : ∀ (es : List MapEntry) (ks : List κ) (i0 : Nat), es.map (·.key) = ks.map enc →
    Instr.findNow d (enc v) es i0 = some ((ks.findIdx? (fun x => decide (x = v))).bind (fun i => (es[i]?).map (fun en => (i0 + i, en.val))))
  | [], [], i0, _ => by simp [Instr.findNow]
  | [], _ :: _, _, h => by simp at h
  | _ :: _, [], _, h => by simp at h
  | en :: es, x :: ks, i0, h => by
    simp only [List.map_cons, List.cons.injEq] at h
    have ih := findNow_idx hs v es ks (i0 + 1) h.2
    simp only [Instr.findNow, h.1, hs]
    by_cases hx : v = x
    · subst hx
      simp [List.findIdx?_cons]
    · have hx' : ¬ x = v := fun e => hx e.symm
      simp only [hx, decide_false]
      rw [ih, List.findIdx?_cons]
      simp only [hx', decide_false]
      cases hf : ks.findIdx? (fun x => decide (x = v)) with
      | none => simp
      | some j => simp; cases es[j]? <;> simp <;> omega
theorem keyOK_of {k : TypeId} {d : TypeDesc} {κ : Type} [DecidableEq κ] {enc : κ → Value} (hu : P.underlying k = some d) (hs : ∀ a b, Instr.sameNow d (enc a) (enc b) = some (decide (a = b))) (hd : ∀ (b : Bool) (v : κ) (w : World), (Instr.checkKey b 10000 k (enc v)).run P w = .ok () w) (hb : ∀ (v : κ), Instr.sameBits 10000 (enc v) (enc v) = true) : KeyOK P k enc := by
  refine ⟨hd, fun v es ks w h => ?_, hb⟩
  have := findNow_idx hs v es ks 0 h
  simp only [Instr.findKey, Sem.run_bind, run_underlying hu, Result.andThen, this]
  simp
theorem keyOK_int {k : TypeId} {kd : IntKind} (hu : P.underlying k = some (.int kd)) : KeyOK P k (fun n : Int => .int kd n) := by
  refine keyOK_of hu (fun a b => ?_) (fun b v w => ?_) (fun v => ?_)
  · by_cases h : a = b <;> simp [Instr.sameNow, h]
  · rw [show (10000 : Nat) = 9999 + 1 from rfl, Instr.checkKey]
    simp [run_underlying hu]
  · rw [show (10000 : Nat) = 9999 + 1 from rfl]
    simp [Instr.sameBits]
theorem keyOK_str {k : TypeId} (hu : P.underlying k = some .string) : KeyOK P k (fun s : ByteArray => .string s) := by
  refine keyOK_of hu (fun a b => ?_) (fun b v w => ?_) (fun v => ?_)
  · have hb := ba_beq a b
    by_cases h : a = b
    · subst h
      simp only [Instr.sameNow, (ba_beq a a).2 rfl, decide_true]
    · have : (a == b) = false := by
        cases hc : a == b
        · rfl
        · exact absurd (hb.1 hc) h
      simp only [Instr.sameNow, this, h, decide_false]
  · rw [show (10000 : Nat) = 9999 + 1 from rfl, Instr.checkKey]
    simp [run_underlying hu]
  · rw [show (10000 : Nat) = 9999 + 1 from rfl]
    simp only [Instr.sameBits]
    exact (ba_beq v v).2 rfl
theorem Sat.objW {b : Nat} {o o' : Obj} (h : Sat S w (pt b o :: G)) : Sat S { w with heap := w.heap.setIfInBounds b o' } (pt b o' :: G) := by
  have hb := h.block
  have hlt : b < w.heap.size := (Array.getElem?_eq_some_iff.1 hb).1
  exact h.write rfl rfl rfl (by simp) (by simp [hlt]) (fun i hi _ => by simp [Array.getElem?_setIfInBounds_ne (Ne.symm hi)])
section
variable {κ : Type} [DecidableEq κ] {enc : κ → Value}
/-- A map: its keys and values, in the order of their coming. -/
def isMap (enc : κ → Value) (b : Nat) (kv : List (κ × Value)) : HProp := hex fun (es : Array MapEntry) => hex fun (clock : Nat) =>
  hpure (es.toList.map (fun en => (en.key, en.val)) = kv.map (fun p => (enc p.1, p.2)) ∧ (es.toList.map (·.born)).Pairwise (· < ·) ∧ ∀ en ∈ es.toList, en.born < clock) (pt b (.map es clock))
def kvAt (v : κ) (kv : List (κ × Value)) : Option Nat := kv.findIdx? (fun p => decide (p.1 = v))
def kvGet (v : κ) (kv : List (κ × Value)) : Option Value := (kvAt v kv).bind (fun i => (kv[i]?).map (·.2))
def kvPut (v : κ) (u : Value) (kv : List (κ × Value)) : List (κ × Value) := match kvAt v kv with
  | some i => kv.set i (v, u)
  | none => kv ++ [(v, u)]
def lkV (z : Value) (ok : Bool) (r : Option Value) : Value := match ok, r with
  | true, some u => .tuple #[u, .bool true]
  | true, none => .tuple #[z, .bool false]
  | false, some u => u
  | false, none => z
omit [DecidableEq κ] in
theorem isMap_open {b : Nat} {kv : List (κ × Value)} (h : Sat S w (isMap enc b kv :: G)) : ∃ es clock, es.toList.map (fun en => (en.key, en.val)) = kv.map (fun p => (enc p.1, p.2)) ∧ (es.toList.map (·.born)).Pairwise (· < ·) ∧ (∀ en ∈ es.toList, en.born < clock) ∧ Sat S w (pt b (.map es clock) :: G) := by
  unfold isMap at h
  rw [Sat_ex] at h
  obtain ⟨es, h⟩ := h
  rw [Sat_ex] at h
  obtain ⟨clock, h⟩ := h
  rw [Sat_pure] at h
  exact ⟨es, clock, h.1.1, h.1.2.1, h.1.2.2, h.2⟩
omit [DecidableEq κ] in
theorem isMap_shut {b : Nat} {kv : List (κ × Value)} {es : Array MapEntry} {clock : Nat} (h : Sat S w (pt b (.map es clock) :: G)) (h1 : es.toList.map (fun en => (en.key, en.val)) = kv.map (fun p => (enc p.1, p.2))) (h2 : (es.toList.map (·.born)).Pairwise (· < ·)) (h3 : ∀ en ∈ es.toList, en.born < clock) : Sat S w (isMap enc b kv :: G) := by
  unfold isMap
  rw [Sat_ex]
  refine ⟨es, ?_⟩
  rw [Sat_ex]
  refine ⟨clock, ?_⟩
  rw [Sat_pure]
  exact ⟨⟨h1, h2, h3⟩, h⟩
omit [DecidableEq κ] in
theorem d_mkm (enc : κ → Value) (h : Sat S w G) : Does P N (.more .mkm) e w (fun v w' => ∃ b, v = .map (some b) ∧ Sat S w' (isMap enc b [] :: G)) := by
  intro op a hco hA next Q' hn
  obtain ⟨t, hop⟩ := co2_mkm (co_2 hco)
  have hrun : (execOp a.eval op).run P w = .ok (.value (.map (some w.heap.size))) (w.alloc (.map #[] 0)) := by
    simp [execOp, hop, Instr.makeMap]
  rw [hrun]
  exact hn _ _ ⟨_, rfl, isMap_shut (h.alloc _) (by simp) (by simp) (by simp)⟩
theorem find_run {kt : TypeId} (hK : KeyOK P kt enc) {es : Array MapEntry} {kv : List (κ × Value)} (he : es.toList.map (fun en => (en.key, en.val)) = kv.map (fun p => (enc p.1, p.2))) (v : κ) (w : World) :
    (Instr.findKey kt (enc v) es.toList).run P w = .ok ((kvAt v kv).bind (fun i => (kv[i]?).map (fun p => (i, p.2)))) w := by
  have h1 : es.toList.map (·.key) = (kv.map (·.1)).map enc := by
    have := congrArg (List.map Prod.fst) he
    simpa [Function.comp_def] using this
  have h2 : ∀ i : Nat, (es.toList[i]?).map (·.val) = (kv[i]?).map (·.2) := fun i => by
    have := congrArg (fun l => (l[i]?).map Prod.snd) he
    simp only [List.getElem?_map, Option.map_map] at this
    simpa [Function.comp_def] using this
  rw [hK.find v es.toList (kv.map (·.1)) w h1]
  have h3 : (kv.map (·.1)).findIdx? (fun x => decide (x = v)) = kvAt v kv := by
    unfold kvAt
    rw [List.findIdx?_map]
    rfl
  rw [h3]
  cases kvAt v kv with
  | none => rfl
  | some i =>
    have := h2 i
    simp only [Option.bind_some]
    cases ha : es.toList[i]? <;> cases hb : kv[i]? <;> simp_all
theorem g_lkp {kt : TypeId} {z : Value} {ok : Bool} {i : Operand} {b : Nat} {v : κ} {kv : List (κ × Value)} (hK : KeyOK P kt enc) (hx : Env.val e x = some (.map (some b))) (hi : Env.val e i = some (enc v)) (h : Sat S w (isMap enc b kv :: G)) :
    Gives P N (.more (.lkp kt z ok x i)) e w (lkV z ok (kvGet v kv)) := by
  intro op a hco hA
  obtain ⟨t, el, hop, ht, hz⟩ := co2_lkp (co_2 hco)
  obtain ⟨es, clock, h1, _, _, h⟩ := isMap_open h
  have hu : P.underlying t = some (.map kt el) := by
    unfold mapAt at ht
    split at ht
    · rename_i a b hab; simp at ht; obtain ⟨rfl, rfl⟩ := ht; exact hab
    · simp at ht
  have hzv : (zeroValue el).run P w = .ok z w := by
    unfold zeroV at hz
    split at hz
    · rename_i inf hinf; simp [zeroValue, typeInfo, hinf, hz]
    · simp at hz
  have hb := h.block
  have hf := find_run hK h1 v w
  have hg : (getObj b).run P w = .ok (.map es clock) w := by simp [getObj, Sem.run, hb]
  simp only [execOp, hop, hA.val hx, hA.val hi, Instr.lookup]
  simp only [Sem.run_bind, run_underlying hu, Sem.run_pure, Result.andThen, hg, hK.check, hf]
  unfold kvGet lkV
  cases kvAt v kv with
  | none => cases ok <;> simp [hzv]
  | some j => cases hj : kv[j]? <;> cases ok <;> simp [hzv, hj]
theorem g_lkpn {kt : TypeId} {z : Value} {ok : Bool} {i : Operand} {v : κ} (hK : KeyOK P kt enc) (hx : Env.val e x = some (.map none)) (hi : Env.val e i = some (enc v)) :
    Gives P N (.more (.lkp kt z ok x i)) e w (lkV z ok none) := by
  intro op a hco hA
  obtain ⟨t, el, hop, ht, hz⟩ := co2_lkp (co_2 hco)
  have hu : P.underlying t = some (.map kt el) := by
    unfold mapAt at ht
    split at ht
    · rename_i a b hab; simp at ht; obtain ⟨rfl, rfl⟩ := ht; exact hab
    · simp at ht
  have hzv : (zeroValue el).run P w = .ok z w := by
    unfold zeroV at hz
    split at hz
    · rename_i inf hinf; simp [zeroValue, typeInfo, hinf, hz]
    · simp at hz
  have hf := hK.find v [] [] w rfl
  simp only [execOp, hop, hA.val hx, hA.val hi, Instr.lookup]
  simp only [Sem.run_bind, run_underlying hu, Sem.run_pure, Result.andThen, hK.check, hf]
  unfold lkV
  cases ok <;> simp [hzv]
omit [DecidableEq κ] in
theorem pair_keys {es : List MapEntry} {kv : List (κ × Value)} (h : es.map (fun en => (en.key, en.val)) = kv.map (fun p => (enc p.1, p.2))) (i : Nat) : (es[i]?).map (fun en => (en.key, en.val)) = (kv[i]?).map (fun p => (enc p.1, p.2)) := by
  have := congrArg (fun l => l[i]?) h
  simpa using this
theorem d_mup {kt : TypeId} {i u : Operand} {b : Nat} {v : κ} {uv : Value} {kv : List (κ × Value)} (hK : KeyOK P kt enc) (hx : Env.val e x = some (.map (some b))) (hi : Env.val e i = some (enc v)) (hu' : Env.val e u = some uv) (h : Sat S w (isMap enc b kv :: G)) :
    Does P N (.more (.mup kt x i u)) e w (fun v' w' => v' = undef ∧ Sat S w' (isMap enc b (kvPut v uv kv) :: G)) := by
  intro op a hco hA next Q' hn
  obtain ⟨t, el, hop, ht⟩ := co2_mup (co_2 hco)
  obtain ⟨es, clock, h1, h2, h3, h⟩ := isMap_open h
  have hu : P.underlying t = some (.map kt el) := by
    unfold mapAt at ht
    split at ht
    · rename_i a b hab; simp at ht; obtain ⟨rfl, rfl⟩ := ht; exact hab
    · simp at ht
  have hb := h.block
  have hg : (getObj b).run P w = .ok (.map es clock) w := by simp [getObj, Sem.run, hb]
  have hset : ∀ o, (setObj b o).run P w = .ok () { w with heap := w.heap.setIfInBounds b o } := fun o => by simp [setObj, Sem.run, hb]
  have hf := find_run hK h1 v w
  have hlen : es.toList.length = kv.length := by simpa using congrArg List.length h1
  have hrun : ∃ o', (Instr.mapUpdate t (.map (some b)) (enc v) uv).run P w = .ok () { w with heap := w.heap.setIfInBounds b o' } ∧ (∀ {w' : World}, Sat S w' (pt b o' :: G) → Sat S w' (isMap enc b (kvPut v uv kv) :: G)) := by
    simp only [Instr.mapUpdate]
    simp only [Sem.run_bind, run_underlying hu, Result.andThen, hg, hK.check, hf]
    unfold kvPut
    cases hat : kvAt v kv with
    | none =>
      refine ⟨_, by simp [hset]; rfl, fun hs => isMap_shut hs ?_ ?_ ?_⟩
      · simp [h1]
      · simp only [Array.toList_push, List.map_append, List.map_cons, List.map_nil]
        rw [List.pairwise_append]
        refine ⟨h2, by simp, fun x hx y hy => ?_⟩
        obtain ⟨en, hen, rfl⟩ := List.mem_map.1 hx
        simp at hy
        subst hy
        exact h3 en hen
      · intro en hen
        simp at hen
        rcases hen with hen | rfl
        · have := h3 en (by simpa using hen); omega
        · simp
    | some j =>
      have hj : j < kv.length := by
        unfold kvAt at hat
        exact (List.findIdx?_eq_some_iff_getElem.1 hat).1
      have hjk : (kv[j]).1 = v := by
        unfold kvAt at hat
        have := (List.findIdx?_eq_some_iff_getElem.1 hat).2.1
        simpa using this
      have hpk := pair_keys h1 j
      have hj2 : j < es.size := by rw [Array.length_toList] at hlen; omega
      rw [List.getElem?_eq_getElem hj, List.getElem?_eq_getElem (by simpa using hj2)] at hpk
      simp at hpk
      have hkey : (es[j]).key = enc v := by rw [hpk.1, hjk]
      simp only [List.getElem?_eq_getElem hj, Option.map_some, Option.bind_some]
      have hk : (Instr.keyThatStays (((es[j]?).map (·.key)).getD (enc v)) (enc v)).run P w = .ok (enc v) w := by
        simp [Instr.keyThatStays, hj2, hkey, hK.same]
      refine ⟨.map (es.modify j fun en => { en with key := enc v, val := uv }) clock, ?_, fun hs => isMap_shut hs ?_ ?_ ?_⟩
      · simp only [Sem.run_bind, hk, Result.andThen, hset]
      · rw [Array.toList_modify]
        apply List.ext_getElem?
        intro i
        have hp := pair_keys h1 i
        simp only [List.getElem?_map] at hp ⊢
        rw [List.getElem?_modify, List.getElem?_set]
        by_cases hij : j = i
        · subst hij
          simp [hj, hj2]
        · simp only [hij, if_false]
          simpa using hp
      · have : (es.modify j fun en => { en with key := enc v, val := uv }).toList.map (·.born) = es.toList.map (·.born) := by
          rw [Array.toList_modify]
          apply List.ext_getElem?
          intro i
          simp only [List.getElem?_map, List.getElem?_modify]
          by_cases hij : j = i <;> cases es.toList[i]? <;> simp [hij]
        rw [this]
        exact h2
      · intro en hen
        rw [Array.toList_modify] at hen
        obtain ⟨i, hi⟩ := List.getElem?_of_mem hen
        rw [List.getElem?_modify] at hi
        cases he : es.toList[i]? with
        | none => simp [he] at hi
        | some en' =>
          have := h3 en' (List.mem_of_getElem? he)
          rw [he] at hi
          simp at hi
          subst hi
          split <;> simpa using this
  obtain ⟨o', hr, hfin⟩ := hrun
  have hrun2 : (execOp a.eval op).run P w = .ok .skip { w with heap := w.heap.setIfInBounds b o' } := by
    rcases hop with hop | hop <;> simp only [execOp, hop, hA.val hx, hA.val hi, hA.val hu', Sem.run_bind, hr, Result.andThen, Sem.run_pure]
  rw [hrun2]
  exact hn _ _ ⟨rfl, hfin h.objW⟩
end
end
end Go.HX
