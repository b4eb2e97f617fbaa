/- HX, part A: a small machine for walking code: environments, a resolved form of code, its rules. HX, part B: operations. HX, part C: operations that only compute. HX, part D: arithmetic, comparisons, conversions. HX, part E: memory, in parts that stand apart. HX, part F: operations on memory. HX, part G: regions that draw their order. HX, part H: rows of elements; more operations. -/
import Derived.WalkKit
import Derived.Orders
import Derived.OrdersHeld
namespace Go.HX
open Go

/-! ### environments -/
abbrev Env := List (Nat × Value)
def Env.get : Env → Nat → Option Value
  | [], _ => none
  | (k, v) :: r, t => match Nat.beq k t with
    | true => some v
    | false => Env.get r t
def Env.val (e : Env) : Operand → Option Value
  | .tmp t => Env.get e t
  | .const v => some v
  | .global g => some (.pointer (some ⟨g, 0, none⟩))
  | .func f => some (.func (.func f) #[] #[])
def Env.put (e : Env) : Option Nat → Value → Env
  | some d, v => (d, v) :: e
  | none, _ => e
def Env.vals (e : Env) : List Operand → Option (List Value)
  | [] => some []
  | x :: xs => match Env.val e x with
    | none => none
    | some v => match Env.vals e xs with
      | none => none
      | some vs => some (v :: vs)
def Env.keep (e : Env) : List Nat → Option Env
  | [] => some []
  | t :: ts => match Env.get e t with
    | none => none
    | some v => match Env.keep e ts with
      | none => none
      | some r => some ((t, v) :: r)

structure Agree (N : Nat) (e : Env) (a : Act) : Prop where
  size : a.tmps.size = N
  defers : a.defers = []
  get : ∀ t v, Env.get e t = some v → a.tmps[t]? = some v

theorem Agree.val {N : Nat} {e : Env} {a : Act} (h : Agree N e a) {x : Operand} {v : Value} (hx : Env.val e x = some v) : a.eval x = v := by
  cases x with
  | tmp t =>
    have := h.get t v hx
    simp [Act.eval, Array.getD_eq_getD_getElem?, this]
  | const u => simpa [Env.val, Act.eval] using hx
  | global g => simpa [Env.val, Act.eval] using hx
  | func f => simpa [Env.val, Act.eval] using hx

theorem Agree.vals {N : Nat} {e : Env} {a : Act} (h : Agree N e a) : ∀ {xs : List Operand} {vs : List Value}, Env.vals e xs = some vs → xs.map a.eval = vs
  | [], vs, hx => by simp [Env.vals] at hx; simp [hx]
  | x :: xs, vs, hx => by
    simp only [Env.vals] at hx
    cases h1 : Env.val e x with
    | none => simp [h1] at hx
    | some v =>
      cases h2 : Env.vals e xs with
      | none => simp [h1, h2] at hx
      | some us =>
        simp [h1, h2] at hx
        subst hx
        simp [h.val h1, h.vals h2]

theorem Env.get_cons (k : Nat) (v : Value) (r : Env) (t : Nat) : Env.get ((k, v) :: r) t = if k = t then some v else Env.get r t := by
  simp only [Env.get]
  by_cases h : k = t
  · subst h; simp
  · rw [if_neg h]
    have : Nat.beq k t = false := by
      cases hb : Nat.beq k t
      · rfl
      · exact absurd (Nat.eq_of_beq_eq_true hb) h
    rw [this]

theorem Agree.put {N : Nat} {e : Env} {a : Act} (h : Agree N e a) {dst : Option Nat} (hd : ∀ d, dst = some d → d < N) (v : Value) :
    Agree N (Env.put e dst v) (a.put dst v) := by
  cases dst with
  | none => exact h
  | some d =>
    have hd' := hd d rfl
    refine ⟨by simp [Act.put, h.size], by simp [Act.put, h.defers], fun t u hu => ?_⟩
    simp only [Env.put, Env.get_cons] at hu
    by_cases hdt : d = t
    · subst hdt
      simp at hu
      subst hu
      simp [Act.put, h.size, hd']
    · rw [if_neg hdt] at hu
      simp [Act.put, Array.getElem?_setIfInBounds_ne hdt, h.get t u hu]

theorem Env.keep_get {e : Env} : ∀ {ts : List Nat} {e' : Env}, Env.keep e ts = some e' → ∀ t v, Env.get e' t = some v → Env.get e t = some v
  | [], e', h, t, v, hg => by simp [Env.keep] at h; subst h; simp [Env.get] at hg
  | s :: ts, e', h, t, v, hg => by
    simp only [Env.keep] at h
    cases h1 : Env.get e s with
    | none => simp [h1] at h
    | some u =>
      cases h2 : Env.keep e ts with
      | none => simp [h1, h2] at h
      | some r =>
        simp [h1, h2] at h
        subst h
        rw [Env.get_cons] at hg
        by_cases hst : s = t
        · subst hst; simp at hg; subst hg; exact h1
        · rw [if_neg hst] at hg; exact Env.keep_get h2 t v hg

theorem Agree.keep {N : Nat} {e e' : Env} {a : Act} (h : Agree N e a) {ts : List Nat} (hk : Env.keep e ts = some e') : Agree N e' a :=
  ⟨h.size, h.defers, fun t v hv => h.get t v (Env.keep_get hk t v hv)⟩

/-! ### the resolved form of an operation -/
/-- How two values of a type are compared: bools, pointers, slices (one of them nil), structs of numbers, bools and strings (their cells). -/
inductive EqC where
  | bool
  | ptr
  | slice
  | agg (n : Nat) (cells : List (Nat × Nat))

/-- More operations: functions as values, arrays, maps. -/
inductive XM where
  | mkf (f : FuncId) (first captured : List Operand)
  | cv (x : Operand) (args : List Operand)
  | bla (zero : List Value) (size : Nat) (parts : List (Nat × Operand))
  | mkm
  | lkp (k : TypeId) (zero : Value) (ok : Bool) (x i : Operand)
  | mup (k : TypeId) (x i v : Operand)
  | ment (k : TypeId) (zero : Value) (x i : Operand)
  | est (x i v : Operand)
  | del (k : TypeId) (x i : Operand)
  | clrm (x : Operand)
  | lenM (x : Operand)
  | rng (x : Operand)
  | nxt (it : Operand)
  | ent (it : Operand)
  | ixa (n size : Nat) (agg : Option Nat) (x i : Operand)

inductive XO where
  | mv (x : Operand)
  | pick (c a b : Operand)
  | nilc (x : Operand)
  | fld (x : Operand) (off : Nat)
  | idx (x i : Operand) (size : Nat)
  | ixp (x i : Operand) (len size : Nat)
  | part (x : Operand) (off : Nat) (agg : Option Nat)
  | ixs (x i : Operand)
  | ixa (x i : Operand) (len size : Nat) (agg : Bool)
  | ext (x : Operand) (i : Nat)
  | un (op : UnOp) (x : Operand)
  | bin (op : BinOp) (t : TypeId) (x y : Operand)
  | eq (neg : Bool) (c : EqC) (x y : Operand)
  | conv (k : IntKind) (x : Operand)
  | same (x : Operand)
  | s2b (t : TypeId) (x : Operand)
  | b2s (x : Operand)
  | ld (x : Operand) (agg : Option Nat)
  | st (x v : Operand) (n : Nat)
  | new (t : TypeId) (z : Value)
  | box (t : TypeId) (x : Operand)
  | bld (zero : List Value) (parts : List (Nat × Nat × Operand))
  | bsl (t : TypeId) (size len : Nat) (zero : List Value) (parts : List (Nat × Operand))
  | mks (t : TypeId) (size bytes : Nat) (zero : List Value) (len cap : Operand)
  | slc (size : Nat) (x : Operand) (lo hi : Option Operand)
  | sls (x : Operand) (lo hi : Option Operand)
  | call (f : FuncId) (args : List Operand)
  | ext1 (f : FuncId) (args : List Operand)
  | lenS (x : Operand)
  | lenB (x : Operand)
  | mnx (mx : Bool) (x : Operand) (xs : List Operand)
  | app (t : TypeId) (size bytes : Nat) (zero : List Value) (s x : Operand)
  | cpy (size : Nat) (d s : Operand)
  | mki (t : TypeId) (x : Operand)
  | more (m : XM)

structure XOp where
  dst : Option Nat
  guard : Option (Nat × Bool)
  op : XO

def aggOf (P : Program) (t : TypeId) : Option (Option Nat) :=
  match P.underlying t, P.info? t with
  | some (.struct _), some i => some (some i.size)
  | some (.array _ _), some i => some (some i.size)
  | some _, some _ => some none
  | _, _ => none

def sizeAt (P : Program) (t : TypeId) : Option Nat := (P.info? t).map (·.size)
def bytesAt (P : Program) (t : TypeId) : Option Nat := (P.info? t).map (·.bytes)
def zeroAt (P : Program) (t : TypeId) : Option (List Value) := match P.info? t with
  | some i => match i.zero with
    | some z => some z.cells.toList
    | none => none
  | none => none
def elemAt' (P : Program) (t : TypeId) : Option TypeId := match P.underlying t with
  | some (.slice e) => some e
  | _ => none
def isString (P : Program) (t : TypeId) : Bool := match P.underlying t with
  | some .string => true
  | _ => false
def intKindOf (P : Program) (t : TypeId) : Option IntKind := match P.underlying t with
  | some (.int k) => some k
  | _ => none

def fldAt (P : Program) (t : TypeId) (i : Nat) : Option (Nat × TypeId) := match P.underlying t with
  | some (.struct fs) => match fs[i]? with
    | some f => some (f.offset, f.type)
    | none => none
  | _ => none

/-- places of a struct's parts: offset and size -/
def placesAt (P : Program) : List Field → Option (List (Nat × Nat))
  | [] => some []
  | f :: fs => match sizeAt P f.type, placesAt P fs with
    | some s, some l => some ((f.offset, s) :: l)
    | _, _ => none
def partsAt (pl : List (Nat × Nat)) : List (Nat × Operand) → Option (List (Nat × Nat × Operand))
  | [] => some []
  | (i, x) :: r => match pl[i]?, partsAt pl r with
    | some (off, s), some l => some ((off, s, x) :: l)
    | _, _ => none

/-- The cells of a struct of numbers, bools, strings, and of structs of such. -/
def primFields (go : Nat → TypeId → Option (List (Nat × Nat))) (sz : TypeId → Option Nat) (off n : Nat) : List Field → Option (List (Nat × Nat))
  | [] => some []
  | f :: fs => match decide (f.name = "_"), sz f.type with
    | false, some s => match Nat.ble (f.offset + s) n && Nat.blt 0 s, go (off + f.offset) f.type, primFields go sz off n fs with
      | true, some a, some b => some (a ++ b)
      | _, _, _ => none
    | _, _ => none
def primCells (P : Program) : Nat → Nat → TypeId → Option (List (Nat × Nat))
  | 0, _, _ => none
  | d + 1, off, t => match P.underlying t with
    | some (.int _) => some [(off, 0)]
    | some .bool => some [(off, 1)]
    | some .string => some [(off, 2)]
    | some (.struct fs) => match P.stoodInHeld t, sizeAt P t with
      | false, some n => primFields (primCells P d) (sizeAt P) off n fs.toList
      | _, _ => none
    | _ => none

def eqClass (P : Program) (t : TypeId) : Option EqC := match P.underlying t with
  | some .bool => some .bool
  | some (.pointer e) => match sizeAt P e with
    | some 0 => none
    | some _ => some .ptr
    | none => none
  | some (.slice _) => some .slice
  | some (.struct _) => match P.eqGuardType P.depth t, sizeAt P t, primCells P 5 0 t with
    | false, some n, some l => some (.agg n l)
    | _, _, _ => none
  | _ => none

def co1 (P : Program) (o : Oper) : Option XO :=
  match o.op with
  | .move x => some (.mv x)
  | .assign x => some (.mv x)
  | .pick c a b => some (.pick c a b)
  | .nilCheck x => some (.nilc x)
  | .fieldAddr t x i => match fldAt P t i with
    | some (off, ft) => match sizeAt P ft with
      | some 0 => none
      | some _ => some (.fld x off)
      | none => none
    | none => none
  | .indexAddr t x i => match elemAt' P t with
    | some e => match sizeAt P e with
      | some s => some (.idx x i s)
      | none => none
    | none => match P.underlying t with
      | some (.array n e) => match sizeAt P e with
        | some s => some (.ixp x i n s)
        | none => none
      | _ => none
  | .field t x i => match fldAt P t i with
    | some (off, ft) => match aggOf P ft with
      | some g => some (.part x off g)
      | none => none
    | none => none
  | .index t x i => match isString P t with
    | true => some (.ixs x i)
    | false => none
  | .extract x i => some (.ext x i)
  | .unOp op _ x => some (.un op x)
  | .binOp op t x y _ => match op, eqClass P t with
    | .eql, some c => some (.eq false c x y)
    | .neq, some c => some (.eq true c x y)
    | _, _ => some (.bin op t x y)
  | .convert s d x => match intKindOf P s, intKindOf P d with
    | some _, some k => some (.conv k x)
    | _, _ => match isString P s, isString P d with
      | true, true => some (.same x)
      | true, false => match elemAt' P d with
        | some e => match intKindOf P e with
          | some .u8 => some (.s2b e x)
          | _ => none
        | none => none
      | false, true => match elemAt' P s with
        | some e => match intKindOf P e with
          | some .u8 => some (.b2s x)
          | _ => none
        | none => none
      | false, false => none
  | .load t x => match aggOf P t with
    | some g => some (.ld x g)
    | none => none
  | .store t x v => match sizeAt P t with
    | some n => some (.st x v n)
    | none => none
  | .alloc t => match P.info? t with
    | some i => match i.zero with
      | some z => some (.new t z)
      | none => none
    | none => none
  | .box t x => some (.box t x)
  | .build t parts => match P.underlying t with
    | some (.struct fs) => match zeroAt P t, placesAt P fs.toList with
      | some z, some pl => match partsAt pl parts.toList with
        | some l => some (.bld z l)
        | none => none
      | _, _ => none
    | _ => none
  | .buildSlice t len parts => match elemAt' P t with
    | some e => match sizeAt P e, zeroAt P e with
      | some s, some z => some (.bsl e s len z parts.toList)
      | _, _ => none
    | none => none
  | .makeSlice t l c => match elemAt' P t with
    | some e => match sizeAt P e, bytesAt P e, zeroAt P e with
      | some s, some b, some z => some (.mks e s b z l c)
      | _, _, _ => none
    | none => none
  | .slice t x lo hi none => match isString P t with
    | true => some (.sls x lo hi)
    | false => match elemAt' P t with
      | some e => match sizeAt P e with
        | some s => some (.slc s x lo hi)
        | none => none
      | none => none
  | .call { callee := .value (.func f), args, .. } => match P.funcs[f]? with
    | some fn => match fn.body, fn.name == "runtime.NumGoroutine" with
      | some _, false => some (.call f args.toList)
      | none, false => some (.ext1 f args.toList)
      | _, _ => none
    | none => none
  | .call { callee := .builtin .len, args, argTypes } => match args.toList, argTypes.toList with
    | [x], [t] => match isString P t, elemAt' P t with
      | true, _ => some (.lenB x)
      | false, some _ => some (.lenS x)
      | _, _ => none
    | _, _ => none
  | .call { callee := .builtin .max, args, .. } => match args.toList with
    | x :: xs => some (.mnx true x xs)
    | [] => none
  | .call { callee := .builtin .min, args, .. } => match args.toList with
    | x :: xs => some (.mnx false x xs)
    | [] => none
  | .call { callee := .builtin .append, args, argTypes } => match args.toList, argTypes.toList with
    | [s, x], [t, t'] => match Nat.beq t t', elemAt' P t with
      | true, some e => match sizeAt P e, bytesAt P e, zeroAt P e with
        | some sz, some b, some z => some (.app e sz b z s x)
        | _, _, _ => none
      | _, _ => none
    | _, _ => none
  | .call { callee := .builtin .copy, args, argTypes } => match args.toList, argTypes.toList with
    | [d, s], t :: _ => match elemAt' P t with
      | some e => match sizeAt P e with
        | some sz => some (.cpy sz d s)
        | none => none
      | none => none
    | _, _ => none
  | _ => none

def mapAt (P : Program) (t : TypeId) : Option (TypeId × TypeId) := match P.underlying t with
  | some (.map k e) => some (k, e)
  | _ => none
def zeroV (P : Program) (t : TypeId) : Option Value := match P.info? t with
  | some i => i.zero
  | none => none
def co2 (P : Program) (o : Oper) : Option XM :=
  match o.op with
  | .makeFunc (.func f) first captured => some (.mkf f first.toList captured.toList)
  | .call { callee := .value (.tmp t), args, .. } => some (.cv (.tmp t) args.toList)
  | .build t parts => match P.underlying t with
    | some (.array _ el) => match zeroAt P t, sizeAt P el with
      | some z, some s => some (.bla z s parts.toList)
      | _, _ => none
    | _ => none
  | .makeMap _ none => some .mkm
  | .lookup t x i ok => match mapAt P t with
    | some (k, el) => match zeroV P el with
      | some z => some (.lkp k z ok x i)
      | none => none
    | none => none
  | .mapUpdate t x i v => match mapAt P t with
    | some (k, _) => some (.mup k x i v)
    | none => none
  | .insert t x i v => match mapAt P t with
    | some (k, _) => some (.mup k x i v)
    | none => none
  | .mapEntry t x i => match mapAt P t with
    | some (k, el) => match zeroV P el with
      | some z => some (.ment k z x i)
      | none => none
    | none => none
  | .entryStore _ x i v => some (.est x i v)
  | .call { callee := .builtin .delete, args, argTypes } => match args.toList, argTypes.toList with
    | [x, i], t :: _ => match mapAt P t with
      | some (k, _) => some (.del k x i)
      | none => none
    | _, _ => none
  | .call { callee := .builtin .clear, args, argTypes } => match args.toList, argTypes.toList with
    | [x], [t] => match mapAt P t with
      | some _ => some (.clrm x)
      | none => none
    | _, _ => none
  | .call { callee := .builtin .len, args, argTypes } => match args.toList, argTypes.toList with
    | [x], [t] => match mapAt P t with
      | some _ => some (.lenM x)
      | none => none
    | _, _ => none
  | .range t x => match mapAt P t with
    | some _ => some (.rng x)
    | none => none
  | .next it false => some (.nxt it)
  | .entry it => some (.ent it)
  | .index t x i => match P.underlying t with
    | some (.array n el) => match sizeAt P el, aggOf P el with
      | some s, some g => some (.ixa n s g x i)
      | _, _ => none
    | _ => none
  | _ => none
def co (P : Program) (o : Oper) : Option XO := match co1 P o with
  | some x => some x
  | none => match co2 P o with
    | some m => some (.more m)
    | none => none

def cop (P : Program) (N : Nat) (ops : Array Oper) (o : Oper) : Option XOp :=
  match co P o with
  | none => none
  | some x => match (match o.dst with | some d => Nat.blt d N | none => true) with
    | false => none
    | true => match o.guard with
      | none => some ⟨o.dst, none, x⟩
      | some (j, want) => match (ops[j]?).bind (·.dst) with
        | some g => some ⟨o.dst, some (g, want), x⟩
        | none => none

def copL (P : Program) (N : Nat) (ops : Array Oper) : List Oper → Option (List XOp)
  | [] => some []
  | o :: os => match cop P N ops o with
    | none => none
    | some x => match copL P N ops os with
      | none => none
      | some xs => some (x :: xs)

/-- Of each operation of a region the ones that it waits for, directly (what binds in every mode). -/
def edgesOf (o : Oper) : List Nat := (o.after.toList.filter (fun e => Region.binds .any e)).map (·.on)
def bitsOf (acc : List Nat) (e : List Nat) : Nat := e.foldl (fun s k => s ||| 2 ^ k ||| acc.getD k 0) 0
def befAcc : List Nat → List (List Nat) → List Nat
  | acc, [] => acc
  | acc, e :: es => befAcc (acc ++ [bitsOf acc e]) es
/-- Of each operation, as bits, all that it waits for. -/
def befAll (es : List (List Nat)) : List Nat := befAcc [] es
def befOf (B : List Nat) (i j : Nat) : Bool := (B.getD j 0).testBit i
/-- Two operations of which none waits for the other touch different temporaries; all wait for earlier ones. -/
def apartOk (ops : Array Oper) : Bool :=
  let es := ops.toList.map edgesOf
  let B := befAll es
  (List.range ops.size).all fun i => (es.getD i []).all (fun k => Nat.blt k i) && (List.range ops.size).all fun j =>
    Nat.beq i j || (es.getD j []).contains i || befOf B j i || (match ops[i]?, ops[j]? with
      | some a, some b => a.apart ops b
      | _, _ => true)

/-- Does it change the world? (A list on the safe side.) -/
def isWX : XO → Bool
  | .mv _ | .pick _ _ _ | .nilc _ | .fld _ _ | .idx _ _ _ | .ixp _ _ _ _ | .part _ _ _ | .ixs _ _ | .ixa _ _ _ _ _ | .ext _ _ | .un _ _ | .bin _ _ _ _ | .eq _ _ _ _ | .conv _ _ | .same _ | .b2s _ | .ld _ _ | .bld _ _ | .slc _ _ _ _ | .sls _ _ _ | .lenS _ | .lenB _ | .mnx _ _ _ | .more (.mkf _ _ _) | .more (.bla _ _ _) | .more (.lkp _ _ _ _ _) | .more (.lenM _) | .more (.ixa _ _ _ _ _) => false
  | _ => true
def wsOf : Nat → List XOp → Nat
  | _, [] => 0
  | i, x :: xs => (match isWX x.op with | true => 2 ^ i | false => 0) ||| wsOf (i + 1) xs
/-- May an operation come up, when those of m have? -/
def rdyB (es : List (List Nat)) (m i : Nat) : Bool := !m.testBit i && Nat.blt i es.length && (es.getD i []).all (fun k => m.testBit k)
def rdyL (es : List (List Nat)) (m : Nat) : List Nat := (List.range es.length).filter (rdyB es m)
/-- An order: what changes nothing comes as soon as it may. -/
def canonGo (es : List (List Nat)) (ws : Nat) : Nat → Nat → List Nat
  | 0, _ => []
  | f + 1, m => match (rdyL es m).find? (fun i => !ws.testBit i) with
    | some i => i :: canonGo es ws f (m ||| 2 ^ i)
    | none => match rdyL es m with
      | i :: _ => i :: canonGo es ws f (m ||| 2 ^ i)
      | [] => []
def pickL (l : List XOp) : List Nat → Option (List (Nat × XOp))
  | [] => some []
  | i :: is => match l[i]?, pickL l is with
    | some x, some r => some ((i, x) :: r)
    | _, _ => none

/-! ### the resolved form of code -/
inductive X where
  | skip
  | ops (l : List XOp)
  | drawn (todo : List (Nat × XOp)) (es : List (List Nat)) (B : List Nat) (ws : Nat)
  | seq (a b : X)
  | cond (c : Operand) (a b : X)
  | block (id : Nat) (a : X)
  | loop (a : X)
  | exit (id : Nat)
  | ret

def cc (P : Program) (N : Nat) : Code → Option X
  | .skip => some .skip
  | .region _ ops false => match copL P N ops ops.toList with
    | some l => some (.ops l)
    | none => none
  | .region _ ops true => match copL P N ops ops.toList, apartOk ops && P.follows .mixedOrders with
    | some l, true =>
      let es := ops.toList.map edgesOf
      let ws := wsOf 0 l
      match pickL l (canonGo es ws es.length 0) with
      | some todo => some (.drawn todo es (befAll es) ws)
      | none => none
    | _, _ => none
  | .seq a b => match cc P N a, cc P N b with
    | some x, some y => some (.seq x y)
    | _, _ => none
  | .cond c a b => match cc P N a, cc P N b with
    | some x, some y => some (.cond c x y)
    | _, _ => none
  | .block id a => match cc P N a with
    | some x => some (.block id x)
    | none => none
  | .loop a => match cc P N a with
    | some x => some (.loop x)
    | none => none
  | .exit id => some (.exit id)
  | .ret => some .ret
  | _ => none

inductive XI where
  | code (x : X)
  | blk (id : Nat)
  | lp (x : X)

inductive Rel (P : Program) (N : Nat) : List XI → List Item → Prop
  | nil : Rel P N [] []
  | code {c : Code} {x : X} {k : List XI} {t : List Item} (h : cc P N c = some x) (r : Rel P N k t) : Rel P N (.code x :: k) (.code c :: t)
  | blk {id : Nat} {k : List XI} {t : List Item} (r : Rel P N k t) : Rel P N (.blk id :: k) (.inBlock id :: t)
  | lp {c : Code} {x : X} {k : List XI} {t : List Item} (h : cc P N c = some x) (r : Rel P N k t) : Rel P N (.lp x :: k) (.inLoop c :: t)

/-- The machine, from a list of items on, comes to R. -/
def Run (P : Program) (fn : FuncId) (todo : List Item) (a : Act) (w : World) (R : Ending → World → Prop) : Prop :=
  ∀ (b : Frame) (cs : List Frame), b.fn = fn → b.kind = .normal →
    ∃ e w' fr, R e w' ∧ Comes P (lone (b.at a todo) cs w) (lone fr cs w') e ∧ fr.fn = fn ∧ fr.leaving P w' e

def Rets (Q : Value → World → Prop) : Ending → World → Prop := fun en w => ∃ v, en = .returned v ∧ Q v w

def XRun (P : Program) (fn : FuncId) (N : Nat) (k : List XI) (e : Env) (w : World) (Q : Value → World → Prop) : Prop :=
  ∀ todo a, Rel P N k todo → Agree N e a → Run P fn todo a w (Rets Q)

/-- What a call comes to: it returns v, in world w, and Q v w. -/
def Ret (P : Program) (f : FuncId) (args : Array Value) (w : World) (Q : Value → World → Prop) : Prop := Calls P f args w (Rets Q)

theorem Ret.mono {P : Program} {f : FuncId} {args : Array Value} {w : World} {Q Q' : Value → World → Prop} (h : Ret P f args w Q) (hq : ∀ v w', Q v w' → Q' v w') : Ret P f args w Q' :=
  Calls.mono h (fun _ _ ⟨v, he, hv⟩ => ⟨v, he, hq v _ hv⟩)

section
variable {P : Program} {fn : FuncId} {N : Nat} {e : Env} {w : World} {Q : Value → World → Prop} {k : List XI}

theorem Run.step {todo todo' : List Item} {a a' : Act} {w' : World} {R : Ending → World → Prop}
    (hs : ∀ (b : Frame) (cs : List Frame), step P (lone (b.at a todo) cs w) = .next (lone (b.at a' todo') cs w')) (h : Run P fn todo' a' w' R) : Run P fn todo a w R := by
  intro b cs hb hk
  obtain ⟨e, w'', fr, hR, hc, hf, hl⟩ := h b cs hb hk
  exact ⟨e, w'', fr, hR, .of_steps (.one (hs b cs)) hc, hf, hl⟩

theorem x_skip (h : XRun P fn N k e w Q) : XRun P fn N (.code .skip :: k) e w Q := by
  intro todo a hr ha
  cases hr with | @code c x _ t hc r =>
  cases c <;> unfold cc at hc
  case skip => exact Run.step (fun b cs => step_skip) (h _ _ r ha)
  case region id ops d =>
    cases d <;> simp only [] at hc <;> (repeat' split at hc) <;> simp at hc
  all_goals first | (simp at hc; done) | ((repeat' split at hc) <;> simp at hc)

theorem x_seq {x y : X} (h : XRun P fn N (.code x :: .code y :: k) e w Q) : XRun P fn N (.code (.seq x y) :: k) e w Q := by
  intro todo a hr ha
  cases hr with | @code c _ _ t hc r =>
  cases c <;> unfold cc at hc
  case seq c1 c2 =>
    split at hc
    · rename_i h1 h2
      simp at hc
      obtain ⟨rfl, rfl⟩ := hc
      exact Run.step (fun b cs => step_seq) (h _ _ (.code h1 (.code h2 r)) ha)
    · simp at hc
  case region id ops d =>
    cases d <;> simp only [] at hc <;> (repeat' split at hc) <;> simp at hc
  all_goals first | (simp at hc; done) | ((repeat' split at hc) <;> simp at hc)

theorem x_cond_t {c : Operand} {x y : X} (hv : Env.val e c = some (.bool true)) (h : XRun P fn N (.code x :: k) e w Q) : XRun P fn N (.code (.cond c x y) :: k) e w Q := by
  intro todo a hr ha
  cases hr with | @code c' _ _ t hc r =>
  cases c' <;> unfold cc at hc
  case cond c0 c1 c2 =>
    split at hc
    · rename_i h1 h2
      simp at hc
      obtain ⟨rfl, rfl, rfl⟩ := hc
      refine Run.step (fun b cs => step_cond (t := true) (ha.val hv)) ?_
      exact h _ _ (.code h1 r) ha
    · simp at hc
  case region id ops d =>
    cases d <;> simp only [] at hc <;> (repeat' split at hc) <;> simp at hc
  all_goals first | (simp at hc; done) | ((repeat' split at hc) <;> simp at hc)

theorem x_cond_f {c : Operand} {x y : X} (hv : Env.val e c = some (.bool false)) (h : XRun P fn N (.code y :: k) e w Q) : XRun P fn N (.code (.cond c x y) :: k) e w Q := by
  intro todo a hr ha
  cases hr with | @code c' _ _ t hc r =>
  cases c' <;> unfold cc at hc
  case cond c0 c1 c2 =>
    split at hc
    · rename_i h1 h2
      simp at hc
      obtain ⟨rfl, rfl, rfl⟩ := hc
      refine Run.step (fun b cs => step_cond (t := false) (ha.val hv)) ?_
      exact h _ _ (.code h2 r) ha
    · simp at hc
  case region id ops d =>
    cases d <;> simp only [] at hc <;> (repeat' split at hc) <;> simp at hc
  all_goals first | (simp at hc; done) | ((repeat' split at hc) <;> simp at hc)

theorem x_block {id : Nat} {x : X} (h : XRun P fn N (.code x :: .blk id :: k) e w Q) : XRun P fn N (.code (.block id x) :: k) e w Q := by
  intro todo a hr ha
  cases hr with | @code c' _ _ t hc r =>
  cases c' <;> unfold cc at hc
  case block id' c1 =>
    split at hc
    · rename_i h1
      simp at hc
      obtain ⟨rfl, rfl⟩ := hc
      exact Run.step (fun b cs => step_block) (h _ _ (.code h1 (.blk r)) ha)
    · simp at hc
  case region id ops d =>
    cases d <;> simp only [] at hc <;> (repeat' split at hc) <;> simp at hc
  all_goals first | (simp at hc; done) | ((repeat' split at hc) <;> simp at hc)

theorem x_blk {id : Nat} (h : XRun P fn N k e w Q) : XRun P fn N (.blk id :: k) e w Q := by
  intro todo a hr ha
  cases hr with | blk r =>
  exact Run.step (fun b cs => step_inBlock) (h _ _ r ha)

theorem x_loop {x : X} (h : XRun P fn N (.code x :: .lp x :: k) e w Q) : XRun P fn N (.code (.loop x) :: k) e w Q := by
  intro todo a hr ha
  cases hr with | @code c' _ _ t hc r =>
  cases c' <;> unfold cc at hc
  case loop c1 =>
    split at hc
    · rename_i h1
      simp at hc
      subst hc
      exact Run.step (fun b cs => step_loop) (h _ _ (.code h1 (.lp h1 r)) ha)
    · simp at hc
  case region id ops d =>
    cases d <;> simp only [] at hc <;> (repeat' split at hc) <;> simp at hc
  all_goals first | (simp at hc; done) | ((repeat' split at hc) <;> simp at hc)

theorem x_lp {x : X} (h : XRun P fn N (.code x :: .lp x :: k) e w Q) : XRun P fn N (.lp x :: k) e w Q := by
  intro todo a hr ha
  cases hr with | lp hc r =>
  exact Run.step (fun b cs => step_inLoop) (h _ _ (.code hc (.lp hc r)) ha)

/-- A loop, by a relation with a number that falls. -/
theorem x_loop_inv {x : X} (Inv : Nat → Env → World → Prop) (n : Nat) (h0 : Inv n e w)
    (round : ∀ n e w, Inv n e w → (∀ n' e' w', n' < n → Inv n' e' w' → XRun P fn N (.lp x :: k) e' w' Q) → XRun P fn N (.code x :: .lp x :: k) e w Q) :
    XRun P fn N (.code (.loop x) :: k) e w Q := by
  have key : ∀ n e w, Inv n e w → XRun P fn N (.code x :: .lp x :: k) e w Q := by
    intro n
    induction n using Nat.strongRecOn with
    | ind n ih => exact fun e w hi => round n e w hi (fun n' e' w' hlt hi' => x_lp (ih n' hlt e' w' hi'))
  exact x_loop (key n e w h0)

def xexit (id : Nat) : List XI → Option (List XI)
  | .blk id' :: k => match Nat.beq id' id with
    | true => some k
    | false => xexit id k
  | _ :: k => xexit id k
  | [] => none

theorem xexit_rel {id : Nat} {k k' : List XI} {t : List Item} (h : xexit id k = some k') (r : Rel P N k t) : ∃ t', exitTo id t = some t' ∧ Rel P N k' t' := by
  induction r with
  | nil => simp [xexit] at h
  | code hc r ih => simp only [xexit] at h; obtain ⟨t', h1, h2⟩ := ih h; exact ⟨t', by simpa [exitTo] using h1, h2⟩
  | @blk id' k0 t0 r ih =>
    simp only [xexit] at h
    cases hb : Nat.beq id' id with
    | true =>
      rw [hb] at h
      simp at h
      subst h
      exact ⟨t0, by simp [exitTo, Nat.eq_of_beq_eq_true hb], r⟩
    | false =>
      rw [hb] at h
      obtain ⟨t', h1, h2⟩ := ih h
      refine ⟨t', ?_, h2⟩
      have : id' ≠ id := fun he => by subst he; simp at hb
      simp [exitTo, this, h1]
  | lp hc r ih => simp only [xexit] at h; obtain ⟨t', h1, h2⟩ := ih h; exact ⟨t', by simpa [exitTo] using h1, h2⟩

theorem x_exit {id : Nat} {k' : List XI} (hk : xexit id k = some k') (h : XRun P fn N k' e w Q) : XRun P fn N (.code (.exit id) :: k) e w Q := by
  intro todo a hr ha
  cases hr with | @code c' _ _ t hc r =>
  cases c' <;> unfold cc at hc
  case exit id' =>
    simp at hc
    subst hc
    obtain ⟨t', h1, h2⟩ := xexit_rel hk r
    exact Run.step (fun b cs => step_exit (by simpa [exitTo] using h1)) (h _ _ h2 ha)
  case region id ops d =>
    cases d <;> simp only [] at hc <;> (repeat' split at hc) <;> simp at hc
  all_goals first | (simp at hc; done) | ((repeat' split at hc) <;> simp at hc)

theorem x_keep {e' : Env} (ts : List Nat) (hk : Env.keep e ts = some e') (h : XRun P fn N k e' w Q) : XRun P fn N k e w Q :=
  fun todo a hr ha => h todo a hr (ha.keep hk)

/-- The results of a function that has them in slots. -/
def resVal (e : Env) : List ResultVar → Option (List Value)
  | [] => some []
  | .tmp t :: r => match Env.get e t with
    | none => none
    | some v => match resVal e r with
      | none => none
      | some vs => some (v :: vs)
  | .cell _ _ :: _ => none
def resOne : List Value → Value
  | [v] => v
  | vs => .tuple vs.toArray

theorem resVal_map {a : Act} (ha : Agree N e a) : ∀ (l : List ResultVar) (vs : List Value), resVal e l = some vs → ∃ ts : List Nat, l = ts.map ResultVar.tmp ∧ ts.map (fun t => a.tmps.getD t undef) = vs
  | [], vs, h => by simp [resVal] at h; exact ⟨[], rfl, by simp [h]⟩
  | .tmp t :: r, vs, h => by
    simp only [resVal] at h
    cases h1 : Env.get e t with
    | none => simp [h1] at h
    | some v =>
      cases h2 : resVal e r with
      | none => simp [h1, h2] at h
      | some us =>
        simp [h1, h2] at h
        subst h
        obtain ⟨ts, h3, h4⟩ := resVal_map ha r us h2
        refine ⟨t :: ts, by simp [h3], ?_⟩
        have := ha.get t v h1
        rw [List.map_cons, h4]
        simp [Array.getD_eq_getD_getElem?, this]
  | .cell _ _ :: _, vs, h => by simp [resVal] at h

theorem run_mapM_tmps (tmps : Array Value) (P : Program) (w : World) (g : ResultVar → Sem Value) (hg : ∀ t, g (.tmp t) = pure (tmps.getD t undef)) : ∀ (ts : List Nat),
    (List.mapM g (ts.map ResultVar.tmp)).run P w = .ok (ts.map (fun t => tmps.getD t undef)) w
  | [] => by simp
  | t :: ts => by
    have ih := run_mapM_tmps tmps P w g hg ts
    simp only [List.map_cons, List.mapM_cons, hg, Sem.run_bind, Sem.run_pure, Result.andThen, ih]

theorem results_env {F : Func} {vs : List Value} {a : Act} (hr : resVal e F.results.toList = some vs) (ha : Agree N e a) (w : World) :
    (results F a.tmps).run P w = .ok (resOne vs) w := by
  obtain ⟨ts, h1, h2⟩ := resVal_map ha _ _ hr
  have hF : F.results = (ts.map ResultVar.tmp).toArray := by rw [← h1]
  unfold results
  rw [hF, List.mapM_toArray]
  rw [map_eq_pure_bind]
  simp only [Sem.run_bind, Sem.run_pure, Result.andThen]
  rw [run_mapM_tmps a.tmps P w _ (fun t => rfl) ts, h2]
  match vs with
  | [] => rfl
  | [v] => rfl
  | v :: v2 :: r => rfl

/-- A function comes to its end: its results. -/
theorem x_ret {F : Func} {vs : List Value} (hF : P.funcs[fn]? = some F) (hr : resVal e F.results.toList = some vs) (hQ : Q (resOne vs) w) : XRun P fn N (.code .ret :: k) e w Q := by
  intro todo a hrel ha
  cases hrel with | @code c' _ _ t hc r =>
  cases c' <;> unfold cc at hc
  case ret =>
    intro b cs hb hk
    refine ⟨.returned (resOne vs), w, { b.at a (.code .ret :: t) with mode := .returning }, ⟨_, rfl, hQ⟩, .of_steps (.one step_ret) (Steps.refl _ _), hb, ?_⟩
    refine ⟨rfl, ha.defers, hk, F, by simpa [Frame.at, hb] using hF, ?_⟩
    exact results_env hr ha w
  case region id ops d =>
    cases d <;> simp only [] at hc <;> (repeat' split at hc) <;> simp at hc
  all_goals first | (simp at hc; done) | ((repeat' split at hc) <;> simp at hc)

theorem x_end {F : Func} {vs : List Value} (hF : P.funcs[fn]? = some F) (hr : resVal e F.results.toList = some vs) (hQ : Q (resOne vs) w) : XRun P fn N [] e w Q := by
  intro todo a hrel ha
  cases hrel
  intro b cs hb hk
  refine ⟨.returned (resOne vs), w, { b.at a [] with mode := .returning }, ⟨_, rfl, hQ⟩, .of_steps (.one step_end) (Steps.refl _ _), hb, ?_⟩
  refine ⟨rfl, ha.defers, hk, F, by simpa [Frame.at, hb] using hF, ?_⟩
  exact results_env hr ha w

/-- The environment at a call's begin. -/
def envOf : Nat → List Value → Env
  | _, [] => []
  | i, v :: vs => (i, v) :: envOf (i + 1) vs

theorem envOf_get : ∀ (vs : List Value) (i t : Nat) (v : Value), Env.get (envOf i vs) t = some v → i ≤ t ∧ vs[t - i]? = some v
  | [], i, t, v, h => by simp [envOf, Env.get] at h
  | u :: us, i, t, v, h => by
    simp only [envOf, Env.get_cons] at h
    by_cases hit : i = t
    · subst hit; simp at h; subst h; exact ⟨Nat.le_refl _, by simp⟩
    · rw [if_neg hit] at h
      obtain ⟨h1, h2⟩ := envOf_get us (i + 1) t v h
      refine ⟨by omega, ?_⟩
      have : t - i = (t - (i + 1)) + 1 := by omega
      rw [this, List.getElem?_cons_succ]; exact h2

/-- A resolved function: its body, its slots. -/
def fnX (P : Program) (f : FuncId) : Option (X × Nat × List ResultVar) := match P.funcs[f]? with
  | none => none
  | some F => match F.body with
    | none => none
    | some c => match cc P F.ntmps c with
      | none => none
      | some x => some (x, F.ntmps, F.results.toList)

/-- What is known of a function: it is this code, so many slots, these results. -/
structure FnIs (P : Program) (f : FuncId) (x : X) (N : Nat) (rs : List ResultVar) : Prop where
  is : fnX P f = some (x, N, rs)

theorem ret_of {x : X} {rs : List ResultVar} {args : Array Value} (hx : FnIs P fn x N rs) (hle' : Nat.ble args.size N = true)
    (h : XRun P fn N [.code x] (envOf 0 args.toList) w Q) : Ret P fn args w Q := by
  have hle : args.size ≤ N := Nat.le_of_ble_eq_true hle'
  have hx := hx.is
  unfold fnX at hx
  split at hx
  · simp at hx
  · rename_i F hF
    split at hx
    · simp at hx
    · rename_i c hc
      split at hx
      · simp at hx
      · rename_i x' hcc
        simp at hx
        obtain ⟨rfl, rfl, rfl⟩ := hx
        intro cs
        let b : Frame := { (default : Frame) with fn := fn, kind := .normal }
        have henter : Frame.enter P fn args .normal =
            b.at { tmps := args ++ Array.replicate (F.ntmps - args.size) undef, defers := [] } [.code c] := by
          simp [Frame.enter, Frame.at, hF, hc, b]
        have := h [.code c] { tmps := args ++ Array.replicate (F.ntmps - args.size) undef, defers := [] } (.code hcc .nil) ⟨by simp; omega, rfl, fun t v ht => by
          obtain ⟨_, h2⟩ := envOf_get _ _ _ _ ht
          simp at h2
          have hlt : t < args.size := (Array.getElem?_eq_some_iff.1 h2).1
          rw [Array.getElem?_append_left hlt]; exact h2⟩ b cs rfl rfl
        rw [henter]
        exact this

/-- The end of a function, by what is known of it. -/
theorem FnIs.func {x : X} {rs : List ResultVar} (hx : FnIs P fn x N rs) : ∃ F, P.funcs[fn]? = some F ∧ F.results.toList = rs := by
  have hx := hx.is
  unfold fnX at hx
  split at hx
  · simp at hx
  · rename_i F hF
    split at hx
    · simp at hx
    · split at hx
      · simp at hx
      · simp at hx
        exact ⟨F, hF, hx.2.2⟩

theorem x_ret' {x : X} {M : Nat} {rs : List ResultVar} (hx : FnIs P fn x M rs) {vs : List Value} (hr : resVal e rs = some vs) (hQ : Q (resOne vs) w) : XRun P fn N (.code .ret :: k) e w Q := by
  obtain ⟨F, hF, hrs⟩ := hx.func
  exact x_ret hF (by rw [hrs]; exact hr) hQ
theorem x_end' {x : X} {M : Nat} {rs : List ResultVar} (hx : FnIs P fn x M rs) {vs : List Value} (hr : resVal e rs = some vs) (hQ : Q (resOne vs) w) : XRun P fn N [] e w Q := by
  obtain ⟨F, hF, hrs⟩ := hx.func
  exact x_end hF (by rw [hrs]; exact hr) hQ
end
end Go.HX
namespace Go.HX
open Go

/-! ### what an operation is, by its resolved form -/
section inv
variable {P : Program} {o : Oper}
theorem co_1 {x : XO} (h : co P o = some x) (hx : ∀ m, x ≠ .more m) : co1 P o = some x := by
  unfold co at h
  split at h
  · rename_i y hy; rw [hy]; exact h
  · split at h
    · simp at h; exact absurd h.symm (hx _)
    · simp at h
theorem co1_nomore {m : XM} : co1 P o ≠ some (.more m) := by
  intro h
  unfold co1 at h; (repeat' split at h) <;> simp at h
theorem co_2 {m : XM} (h : co P o = some (.more m)) : co2 P o = some m := by
  unfold co at h
  split at h
  · rename_i y hy; simp at h; subst h; exact absurd hy co1_nomore
  · split at h
    · rename_i m' hm; simp at h; subst h; exact hm
    · simp at h
theorem co_mv {x : Operand} (h : co P o = some (.mv x)) : o.op = .move x ∨ o.op = .assign x := by
  replace h := co_1 h nofun; unfold co1 at h; (repeat' split at h) <;> first | (simp at h; done) | grind
theorem co_pick {c a b : Operand} (h : co P o = some (.pick c a b)) : o.op = .pick c a b := by
  replace h := co_1 h nofun; unfold co1 at h; (repeat' split at h) <;> first | (simp at h; done) | grind
theorem co_nilc {x : Operand} (h : co P o = some (.nilc x)) : o.op = .nilCheck x := by
  replace h := co_1 h nofun; unfold co1 at h; (repeat' split at h) <;> first | (simp at h; done) | grind
theorem co_fld {x : Operand} {off : Nat} (h : co P o = some (.fld x off)) : ∃ t i ft s, o.op = .fieldAddr t x i ∧ fldAt P t i = some (off, ft) ∧ sizeAt P ft = some s ∧ s ≠ 0 := by
  replace h := co_1 h nofun; unfold co1 at h; (repeat' split at h) <;> grind
theorem co_idx {x i : Operand} {s : Nat} (h : co P o = some (.idx x i s)) : ∃ t e, o.op = .indexAddr t x i ∧ elemAt' P t = some e ∧ sizeAt P e = some s := by
  replace h := co_1 h nofun; unfold co1 at h; (repeat' split at h) <;> first | (simp at h; done) | grind
theorem co_ixp {x i : Operand} {n s : Nat} (h : co P o = some (.ixp x i n s)) : ∃ t e, o.op = .indexAddr t x i ∧ P.underlying t = some (.array n e) ∧ sizeAt P e = some s := by
  replace h := co_1 h nofun; unfold co1 at h; (repeat' split at h) <;> first | (simp at h; done) | grind
theorem co_part {x : Operand} {off : Nat} {g : Option Nat} (h : co P o = some (.part x off g)) : ∃ t i ft, o.op = .field t x i ∧ fldAt P t i = some (off, ft) ∧ aggOf P ft = some g := by
  replace h := co_1 h nofun; unfold co1 at h; (repeat' split at h) <;> first | (simp at h; done) | grind
theorem co_ixs {x i : Operand} (h : co P o = some (.ixs x i)) : ∃ t, o.op = .index t x i ∧ isString P t = true := by
  replace h := co_1 h nofun; unfold co1 at h; (repeat' split at h) <;> first | (simp at h; done) | grind
theorem co_ext {x : Operand} {i : Nat} (h : co P o = some (.ext x i)) : o.op = .extract x i := by
  replace h := co_1 h nofun; unfold co1 at h; (repeat' split at h) <;> first | (simp at h; done) | grind
theorem co_un {op : UnOp} {x : Operand} (h : co P o = some (.un op x)) : ∃ t, o.op = .unOp op t x := by
  replace h := co_1 h nofun; unfold co1 at h; (repeat' split at h) <;> first | (simp at h; done) | grind
theorem co_bin {op : BinOp} {t : TypeId} {x y : Operand} (h : co P o = some (.bin op t x y)) : ∃ yt, o.op = .binOp op t x y yt := by
  replace h := co_1 h nofun; unfold co1 at h; (repeat' split at h) <;> first | (simp at h; done) | grind
theorem co_eq {n : Bool} {c : EqC} {x y : Operand} (h : co P o = some (.eq n c x y)) : ∃ t yt, o.op = .binOp (if n then .neq else .eql) t x y yt ∧ eqClass P t = some c := by
  replace h := co_1 h nofun; unfold co1 at h; (repeat' split at h) <;> first | (simp at h; done) | grind
theorem co_conv {k : IntKind} {x : Operand} (h : co P o = some (.conv k x)) : ∃ s d k', o.op = .convert s d x ∧ intKindOf P s = some k' ∧ intKindOf P d = some k := by
  replace h := co_1 h nofun; unfold co1 at h; (repeat' split at h) <;> first | (simp at h; done) | grind
theorem co_same {x : Operand} (h : co P o = some (.same x)) : ∃ s d, o.op = .convert s d x ∧ isString P s = true ∧ isString P d = true := by
  replace h := co_1 h nofun; unfold co1 at h; (repeat' split at h) <;> first | (simp at h; done) | grind
theorem co_s2b {e : TypeId} {x : Operand} (h : co P o = some (.s2b e x)) : ∃ s d, o.op = .convert s d x ∧ isString P s = true ∧ elemAt' P d = some e ∧ intKindOf P e = some .u8 := by
  replace h := co_1 h nofun; unfold co1 at h; (repeat' split at h) <;> first | (simp at h; done) | grind
theorem co_b2s {x : Operand} (h : co P o = some (.b2s x)) : ∃ s d e, o.op = .convert s d x ∧ isString P d = true ∧ elemAt' P s = some e ∧ intKindOf P e = some .u8 := by
  replace h := co_1 h nofun; unfold co1 at h; (repeat' split at h) <;> first | (simp at h; done) | grind
theorem co_ld {x : Operand} {g : Option Nat} (h : co P o = some (.ld x g)) : ∃ t, o.op = .load t x ∧ aggOf P t = some g := by
  replace h := co_1 h nofun; unfold co1 at h; (repeat' split at h) <;> first | (simp at h; done) | grind
theorem co_st {x v : Operand} {n : Nat} (h : co P o = some (.st x v n)) : ∃ t, o.op = .store t x v ∧ sizeAt P t = some n := by
  replace h := co_1 h nofun; unfold co1 at h; (repeat' split at h) <;> first | (simp at h; done) | grind
theorem co_new {t : TypeId} {z : Value} (h : co P o = some (.new t z)) : ∃ i, o.op = .alloc t ∧ P.info? t = some i ∧ i.zero = some z := by
  replace h := co_1 h nofun; unfold co1 at h; (repeat' split at h) <;> first | (simp at h; done) | grind
theorem co_box {t : TypeId} {x : Operand} (h : co P o = some (.box t x)) : o.op = .box t x := by
  replace h := co_1 h nofun; unfold co1 at h; (repeat' split at h) <;> first | (simp at h; done) | grind
theorem co_bld {z : List Value} {l : List (Nat × Nat × Operand)} (h : co P o = some (.bld z l)) : ∃ t parts fs pl, o.op = .build t parts ∧ P.underlying t = some (.struct fs) ∧ zeroAt P t = some z ∧ placesAt P fs.toList = some pl ∧ partsAt pl parts.toList = some l := by
  replace h := co_1 h nofun; unfold co1 at h; (repeat' split at h) <;> first | (simp at h; done) | grind
theorem co_bsl {e : TypeId} {s len : Nat} {z : List Value} {l : List (Nat × Operand)} (h : co P o = some (.bsl e s len z l)) : ∃ t parts, o.op = .buildSlice t len parts ∧ elemAt' P t = some e ∧ sizeAt P e = some s ∧ zeroAt P e = some z ∧ l = parts.toList := by
  replace h := co_1 h nofun; unfold co1 at h; (repeat' split at h) <;> first | (simp at h; done) | grind
theorem co_mks {e : TypeId} {s b : Nat} {z : List Value} {l c : Operand} (h : co P o = some (.mks e s b z l c)) : ∃ t, o.op = .makeSlice t l c ∧ elemAt' P t = some e ∧ sizeAt P e = some s ∧ bytesAt P e = some b ∧ zeroAt P e = some z := by
  replace h := co_1 h nofun; unfold co1 at h; (repeat' split at h) <;> first | (simp at h; done) | grind
theorem co_slc {s : Nat} {x : Operand} {lo hi : Option Operand} (h : co P o = some (.slc s x lo hi)) : ∃ t e, o.op = .slice t x lo hi none ∧ elemAt' P t = some e ∧ sizeAt P e = some s := by
  replace h := co_1 h nofun; unfold co1 at h; (repeat' split at h) <;> first | (simp at h; done) | grind
theorem co_sls {x : Operand} {lo hi : Option Operand} (h : co P o = some (.sls x lo hi)) : ∃ t, o.op = .slice t x lo hi none ∧ isString P t = true := by
  replace h := co_1 h nofun; unfold co1 at h; (repeat' split at h) <;> first | (simp at h; done) | grind
theorem co_call {f : FuncId} {args : List Operand} (h : co P o = some (.call f args)) : ∃ as ts fn c, o.op = .call { callee := .value (.func f), args := as, argTypes := ts } ∧ as.toList = args ∧ P.funcs[f]? = some fn ∧ fn.body = some c ∧ (fn.name == "runtime.NumGoroutine") = false := by
  replace h := co_1 h nofun; unfold co1 at h; (repeat' split at h) <;> first | (simp at h; done) | grind
theorem co_ext1 {f : FuncId} {args : List Operand} (h : co P o = some (.ext1 f args)) : ∃ as ts, o.op = .call { callee := .value (.func f), args := as, argTypes := ts } ∧ as.toList = args := by
  replace h := co_1 h nofun; unfold co1 at h; (repeat' split at h) <;> first | (simp at h; done) | grind
theorem co_lenS {x : Operand} (h : co P o = some (.lenS x)) : ∃ as ts t e, o.op = .call { callee := .builtin .len, args := as, argTypes := ts } ∧ as.toList = [x] ∧ ts.toList = [t] ∧ elemAt' P t = some e := by
  replace h := co_1 h nofun; unfold co1 at h; (repeat' split at h) <;> first | (simp at h; done) | grind
theorem co_lenB {x : Operand} (h : co P o = some (.lenB x)) : ∃ as ts t, o.op = .call { callee := .builtin .len, args := as, argTypes := ts } ∧ as.toList = [x] ∧ ts.toList = [t] ∧ isString P t = true := by
  replace h := co_1 h nofun; unfold co1 at h; (repeat' split at h) <;> first | (simp at h; done) | grind
theorem co_mnx {b : Bool} {x : Operand} {xs : List Operand} (h : co P o = some (.mnx b x xs)) : ∃ as ts, o.op = .call { callee := .builtin (if b then .max else .min), args := as, argTypes := ts } ∧ as.toList = x :: xs := by
  replace h := co_1 h nofun; unfold co1 at h; (repeat' split at h) <;> first | (simp at h; done) | grind
theorem co_app {e : TypeId} {sz b : Nat} {z : List Value} {s x : Operand} (h : co P o = some (.app e sz b z s x)) : ∃ as ts t, o.op = .call { callee := .builtin .append, args := as, argTypes := ts } ∧ as.toList = [s, x] ∧ ts.toList = [t, t] ∧ elemAt' P t = some e ∧ sizeAt P e = some sz ∧ bytesAt P e = some b ∧ zeroAt P e = some z := by
  replace h := co_1 h nofun; unfold co1 at h; (repeat' split at h) <;> first | (simp at h; done) | skip
  have hb : ∀ t t' : Nat, Nat.beq t t' = true → t = t' := fun t t' h => Nat.eq_of_beq_eq_true h
  grind
theorem co_cpy {sz : Nat} {d s : Operand} (h : co P o = some (.cpy sz d s)) : ∃ as ts t ts' e, o.op = .call { callee := .builtin .copy, args := as, argTypes := ts } ∧ as.toList = [d, s] ∧ ts.toList = t :: ts' ∧ elemAt' P t = some e ∧ sizeAt P e = some sz := by
  replace h := co_1 h nofun; unfold co1 at h; (repeat' split at h) <;> first | (simp at h; done) | grind
theorem co2_mkf {f : FuncId} {fs cs : List Operand} (h : co2 P o = some (.mkf f fs cs)) : ∃ fa ca, o.op = .makeFunc (.func f) fa ca ∧ fa.toList = fs ∧ ca.toList = cs := by
  unfold co2 at h; (repeat' split at h) <;> first | (simp at h; done) | grind
theorem co2_cv {x : Operand} {args : List Operand} (h : co2 P o = some (.cv x args)) : ∃ as ts, o.op = .call { callee := .value x, args := as, argTypes := ts } ∧ as.toList = args := by
  unfold co2 at h; (repeat' split at h) <;> first | (simp at h; done) | grind
theorem co2_bla {z : List Value} {s : Nat} {l : List (Nat × Operand)} (h : co2 P o = some (.bla z s l)) : ∃ t n el parts, o.op = .build t parts ∧ P.underlying t = some (.array n el) ∧ zeroAt P t = some z ∧ sizeAt P el = some s ∧ parts.toList = l := by
  unfold co2 at h; (repeat' split at h) <;> first | (simp at h; done) | grind
theorem co2_mkm (h : co2 P o = some .mkm) : ∃ t, o.op = .makeMap t none := by
  unfold co2 at h; (repeat' split at h) <;> first | (simp at h; done) | grind
theorem co2_lkp {k : TypeId} {z : Value} {ok : Bool} {x i : Operand} (h : co2 P o = some (.lkp k z ok x i)) : ∃ t el, o.op = .lookup t x i ok ∧ mapAt P t = some (k, el) ∧ zeroV P el = some z := by
  unfold co2 at h; (repeat' split at h) <;> first | (simp at h; done) | grind
theorem co2_ixa {n s : Nat} {g : Option Nat} {x i : Operand} (h : co2 P o = some (.ixa n s g x i)) : ∃ t el, o.op = .index t x i ∧ P.underlying t = some (.array n el) ∧ sizeAt P el = some s ∧ aggOf P el = some g := by
  unfold co2 at h; (repeat' split at h) <;> first | (simp at h; done) | grind
theorem co2_mup {k : TypeId} {x i v : Operand} (h : co2 P o = some (.mup k x i v)) : ∃ t el, (o.op = .mapUpdate t x i v ∨ o.op = .insert t x i v) ∧ mapAt P t = some (k, el) := by
  unfold co2 at h; (repeat' split at h) <;> first | (simp at h; done) | grind
theorem co2_rng {x : Operand} (h : co2 P o = some (.rng x)) : ∃ t kv, o.op = .range t x ∧ mapAt P t = some kv := by
  unfold co2 at h; (repeat' split at h) <;> first | (simp at h; done) | grind
theorem co2_nxt {x : Operand} (h : co2 P o = some (.nxt x)) : o.op = .next x false := by
  unfold co2 at h; (repeat' split at h) <;> first | (simp at h; done) | grind
theorem co2_ent {x : Operand} (h : co2 P o = some (.ent x)) : o.op = .entry x := by
  unfold co2 at h; (repeat' split at h) <;> first | (simp at h; done) | grind
end inv

/-! ### regions that keep the order of the text -/
def wantedE (e : Env) : Option (Nat × Bool) → Option Bool
  | none => some true
  | some (g, want) => match Env.get e g with
    | some (.bool b) => some (b == want)
    | some _ => some false
    | none => none

def XOps (P : Program) (fn : FuncId) (N : Nat) (l : List XOp) (k : List XI) (e : Env) (w : World) (Q : Value → World → Prop) : Prop :=
  ∀ ops os, copL P N ops os = some l → ∀ a, Agree N e a →
    wpList P ops (fun ex a' w' => ex = .normal ∧ ∃ e', Agree N e' a' ∧ XRun P fn N k e' w' Q) os a w

/-- What an operation does in a world: it gives v, in world w', and K v w'. -/
def Does (P : Program) (N : Nat) (x : XO) (e : Env) (w : World) (K : Value → World → Prop) : Prop :=
  ∀ o a, co P o = some x → Agree N e a → ∀ next Q', (∀ v w', K v w' → next (a.put o.dst v) w') → o.upon P a next Q' ((execOp a.eval o).run P w)

theorem Does.value {P : Program} {N : Nat} {x : XO} {e : Env} {w w' : World} {v : Value}
    (h : ∀ o a, co P o = some x → Agree N e a → (execOp a.eval o).run P w = .ok (.value v) w') : Does P N x e w (fun v' w'' => v' = v ∧ w'' = w') :=
  fun o a hc ha next Q' hn => by rw [h o a hc ha]; exact hn v w' ⟨rfl, rfl⟩

theorem Does.mono {P : Program} {N : Nat} {x : XO} {e : Env} {w : World} {K K' : Value → World → Prop} (h : Does P N x e w K) (hk : ∀ v w', K v w' → K' v w') : Does P N x e w K' :=
  fun o a hc ha next Q' hn => h o a hc ha next Q' (fun v w' hv => hn v w' (hk v w' hv))

section
variable {P : Program} {fn : FuncId} {N : Nat} {e : Env} {w : World} {Q : Value → World → Prop} {k : List XI} {l : List XOp}

theorem x_ops (h : XOps P fn N l k e w Q) : XRun P fn N (.code (.ops l) :: k) e w Q := by
  intro todo a hr ha
  cases hr with | @code c' _ _ t hc r =>
  cases c' <;> unfold cc at hc
  case region id ops d =>
    cases d <;> simp only [] at hc <;> (repeat' split at hc) <;> simp at hc
    rename_i l' hl
    subst hc
    intro b cs hb hk
    obtain ⟨ex, a', w', ⟨rfl, e', ha', hx⟩, harr⟩ := wp_region_list (id := id) (h ops _ hl a ha) b t cs
    obtain ⟨en, w'', fr, hR, hcm, hf, hlv⟩ := hx t a' r ha' b cs hb hk
    exact ⟨en, w'', fr, hR, .of_steps harr hcm, hf, hlv⟩
  all_goals first | (simp at hc; done) | ((repeat' split at hc) <;> simp at hc)

theorem x_nil (h : XRun P fn N k e w Q) : XOps P fn N [] k e w Q := by
  intro ops os ho a ha
  cases os with
  | nil => exact ⟨rfl, e, ha, h⟩
  | cons o os => simp only [copL] at ho; (repeat' split at ho) <;> simp at ho

theorem copL_cons {ops : Array Oper} {os : List Oper} {x : XOp} (h : copL P N ops os = some (x :: l)) : ∃ o os', os = o :: os' ∧ cop P N ops o = some x ∧ copL P N ops os' = some l := by
  cases os with
  | nil => simp [copL] at h
  | cons o os =>
    simp only [copL] at h
    (repeat' split at h) <;> simp at h
    rename_i h1 _ _ h2
    obtain ⟨rfl, rfl⟩ := h
    exact ⟨o, os, rfl, h1, h2⟩

theorem cop_inv {ops : Array Oper} {o : Oper} {x : XOp} (h : cop P N ops o = some x) : co P o = some x.op ∧ o.dst = x.dst ∧ (∀ d, o.dst = some d → d < N) ∧
    (∀ b, ∀ a, Agree N e a → wantedE e x.guard = some b → Region.wanted o (yielded ops a.tmps) = b) := by
  unfold cop at h
  split at h
  · simp at h
  · rename_i xo hxo
    split at h
    · simp at h
    · rename_i hd
      have hdN : ∀ d, o.dst = some d → d < N := by
        intro d hdd
        rw [hdd] at hd
        simpa [Nat.blt_eq] using hd
      split at h
      · rename_i hg
        simp at h
        subst h
        refine ⟨hxo, rfl, hdN, fun b a ha hw => ?_⟩
        simp [wantedE] at hw
        simp [Region.wanted, hg, hw]
      · rename_i j want hg
        split at h
        · rename_i g hj
          simp at h
          subst h
          refine ⟨hxo, rfl, hdN, fun b a ha hw => ?_⟩
          simp only [wantedE] at hw
          split at hw
          · rename_i b' hget
            have h1 := ha.get g _ hget
            simp at hw
            subst hw
            simp [Region.wanted, hg, yielded, hj, h1]
          · rename_i v hv hget
            have h1 := ha.get g _ hget
            simp at hw
            subst hw
            simp only [Region.wanted, hg, yielded, hj, Option.bind_some]
            rw [h1]
            cases v <;> simp_all
          · simp at hw
        · simp at h

theorem p_skip {dst : Option Nat} {g : Option (Nat × Bool)} {xo : XO} (hg : wantedE e g = some false) (h : XOps P fn N l k (Env.put e dst undef) w Q) : XOps P fn N (⟨dst, g, xo⟩ :: l) k e w Q := by
  intro ops os ho a ha
  obtain ⟨o, os', rfl, h1, h2⟩ := copL_cons ho
  obtain ⟨hco, hdst, hdN, hwant⟩ := cop_inv (e := e) h1
  have hw := hwant false a ha hg
  unfold wpList
  rw [if_neg (by simp [hw])]
  simp only at hdst
  rw [hdst]
  exact h ops os' h2 _ (ha.put (by rw [← hdst]; exact hdN) _)

theorem p_do {dst : Option Nat} {g : Option (Nat × Bool)} {xo : XO} {K : Value → World → Prop} (hg : wantedE e g = some true) (hd : Does P N xo e w K)
    (h : ∀ v w', K v w' → XOps P fn N l k (Env.put e dst v) w' Q) : XOps P fn N (⟨dst, g, xo⟩ :: l) k e w Q := by
  intro ops os ho a ha
  obtain ⟨o, os', rfl, h1, h2⟩ := copL_cons ho
  obtain ⟨hco, hdst, hdN, hwant⟩ := cop_inv (e := e) h1
  have hw := hwant true a ha hg
  unfold wpList
  rw [if_pos hw]
  refine .inl (hd o a hco ha _ _ (fun v w' hv => ?_))
  simp only at hdst
  rw [hdst]
  exact h v w' hv ops os' h2 _ (ha.put (by rw [← hdst]; exact hdN) _)

/-- An operation of one value, the world left alone. -/
def Gives (P : Program) (N : Nat) (x : XO) (e : Env) (w : World) (v : Value) : Prop :=
  ∀ o a, co P o = some x → Agree N e a → (execOp a.eval o).run P w = .ok (.value v) w

theorem p_val {dst : Option Nat} {g : Option (Nat × Bool)} {xo : XO} {v : Value} (hg : wantedE e g = some true) (hd : Gives P N xo e w v)
    (h : XOps P fn N l k (Env.put e dst v) w Q) : XOps P fn N (⟨dst, g, xo⟩ :: l) k e w Q :=
  p_do hg (Does.value hd) (by rintro v' w' ⟨rfl, rfl⟩; exact h)
end
end Go.HX
namespace Go.HX
open Go

theorem addr_add (b o n : Nat) : (⟨b, o, none⟩ : Addr).add n = ⟨b, o + n, none⟩ := by
  unfold Addr.add; split
  · subst_vars; rfl
  · rfl

/-- What an operation that only computes gives. -/
def pureV (e : Env) : XO → Option Value
  | .mv x => Env.val e x
  | .pick c a b => match Env.val e c with
    | some (.bool true) => Env.val e a
    | some (.bool false) => Env.val e b
    | _ => none
  | .nilc x => match Env.val e x with
    | some (.pointer (some a)) => some (.pointer (some a))
    | _ => none
  | .fld x off => match Env.val e x with
    | some (.pointer (some ⟨b, o, none⟩)) => some (.pointer (some ⟨b, o + off, none⟩))
    | _ => none
  | .part x off none => match Env.val e x with
    | some (.agg cs) => cs[off]?
    | _ => none
  | .part x off (some n) => match Env.val e x with
    | some (.agg cs) => some (.agg (cs.extract off (off + n)))
    | _ => none
  | .ext x i => match Env.val e x with
    | some (.tuple vs) => vs[i]?
    | _ => none
  | .un .not x => match Env.val e x with
    | some (.bool b) => some (.bool (!b))
    | _ => none
  | .lenS x => match Env.val e x with
    | some (.slice _ n _) => some (.int .i64 n)
    | _ => none
  | .lenB x => match Env.val e x with
    | some (.string s) => some (.int .i64 s.size)
    | _ => none
  | .same x => match Env.val e x with
    | some (.string s) => some (.string s)
    | _ => none
  | .eq n .bool x y => match Env.val e x, Env.val e y with
    | some (.bool a), some (.bool b) => some (.bool ((a == b) != n))
    | _, _ => none
  | .eq n .ptr x y => match Env.val e x, Env.val e y with
    | some (.pointer none), some (.pointer none) => some (.bool (!n))
    | some (.pointer none), some (.pointer (some _)) => some (.bool n)
    | some (.pointer (some _)), some (.pointer none) => some (.bool n)
    | _, _ => none
  | .eq n .slice x y => match Env.val e x, Env.val e y with
    | some (.slice none _ _), some (.slice none _ _) => some (.bool (!n))
    | some (.slice none _ _), some (.slice (some _) _ _) => some (.bool n)
    | some (.slice (some _) _ _), some (.slice none _ _) => some (.bool n)
    | _, _ => none
  | .more (.mkf f fs cs) => match Env.vals e fs, Env.vals e cs with
    | some a, some b => some (.func (.func f) a.toArray b.toArray)
    | _, _ => none
  | _ => none

section
variable {P : Program} {N : Nat} {e : Env} {w : World}

theorem agg_run {t : TypeId} {g : Option Nat} (h : aggOf P t = some g) (w : World) :
    (isAgg t).run P w = .ok g.isSome w ∧ ∀ n, g = some n → (sizeOf t).run P w = .ok n w := by
  unfold aggOf at h
  split at h <;> simp at h
  · rename_i fs i hu hi
    subst h
    exact ⟨by simp [isAgg, run_underlying hu], fun n hn => by simp at hn; subst hn; simp [sizeOf, typeInfo, hi]⟩
  · rename_i fs i hu hi
    subst h
    exact ⟨by simp [isAgg, run_underlying hu], fun n hn => by simp at hn; subst hn; simp [sizeOf, typeInfo, hi]⟩
  · rename_i d i hd ha hs hi
    subst h
    refine ⟨?_, fun n hn => by simp at hn⟩
    cases d <;> simp_all [isAgg, run_underlying]

theorem size_run {t : TypeId} {n : Nat} (h : sizeAt P t = some n) (w : World) : (sizeOf t).run P w = .ok n w := by
  unfold sizeAt at h
  cases hi : P.info? t with
  | none => simp [hi] at h
  | some i => simp [hi] at h; subst h; simp [sizeOf, typeInfo, hi]

theorem elem_und {t el : TypeId} (h : elemAt' P t = some el) : P.underlying t = some (.slice el) := by
  unfold elemAt' at h; split at h <;> simp_all
theorem str_und {t : TypeId} (h : isString P t = true) : P.underlying t = some .string := by
  unfold isString at h; split at h <;> simp_all
theorem int_und {t : TypeId} {k : IntKind} (h : intKindOf P t = some k) : P.underlying t = some (.int k) := by
  unfold intKindOf at h; split at h <;> simp_all
theorem fld_und {t ft : TypeId} {i off : Nat} (h : fldAt P t i = some (off, ft)) : ∃ fs f, P.underlying t = some (.struct fs) ∧ fs[i]? = some f ∧ f.offset = off ∧ f.type = ft := by
  unfold fldAt at h
  split at h
  · rename_i fs hu
    split at h
    · rename_i f hf; simp at h; exact ⟨fs, f, hu, hf, h.1, h.2⟩
    · simp at h
  · simp at h

theorem run_equal_of (t : TypeId) (x y : Value) (r : Bool) (h : ∀ d, (Op.equalIn (d + 1) t x y).run P w = .ok r w) : (Op.equal t x y).run P w = .ok r w := h 9999
theorem binOp_eql_ptr (t : TypeId) (a b : Option Addr) : binOp .eql t (.pointer a) (.pointer b) = (do pure (.bool (← Op.equal t (.pointer a) (.pointer b)))) := by unfold binOp; cases a <;> cases b <;> rfl
theorem binOp_neq_ptr (t : TypeId) (a b : Option Addr) : binOp .neq t (.pointer a) (.pointer b) = (do pure (.bool (!(← Op.equal t (.pointer a) (.pointer b))))) := by unfold binOp; cases a <;> cases b <;> rfl
theorem binOp_eql_sl (t : TypeId) (a b : Option Addr) (n c m d : Nat) : binOp .eql t (.slice a n c) (.slice b m d) = (do pure (.bool (← Op.equal t (.slice a n c) (.slice b m d)))) := rfl
theorem binOp_neq_sl (t : TypeId) (a b : Option Addr) (n c m d : Nat) : binOp .neq t (.slice a n c) (.slice b m d) = (do pure (.bool (!(← Op.equal t (.slice a n c) (.slice b m d))))) := rfl
theorem gives_pure {x : XO} {v : Value} (h : pureV e x = some v) : Gives P N x e w v := by
  intro o a hc ha
  cases x <;> try simp only [pureV] at h
  case more m =>
    cases m <;> try (simp only at h; simp at h; done)
    case mkf f fs cs =>
      simp only at h
      obtain ⟨fa, ca, ho, h1, h2⟩ := co2_mkf (co_2 hc)
      split at h
      · rename_i va vb ha1 hb1
        simp at h; subst h
        have e1 : fa.map a.eval = va.toArray := by
          have := ha.vals ha1
          rw [← h1] at this
          apply Array.toList_inj.1
          rw [Array.toList_map]
          exact this
        have e2 : ca.map a.eval = vb.toArray := by
          have := ha.vals hb1
          rw [← h2] at this
          apply Array.toList_inj.1
          rw [Array.toList_map]
          exact this
        simp [execOp, ho, Instr.makeFunc, e1, e2]
      · simp at h
  case mv x =>
    rcases co_mv hc with ho | ho <;> simp [execOp, ho, ha.val h]
  case pick c x y =>
    have ho := co_pick hc
    split at h
    · rename_i hcv; simp [execOp, ho, ha.val hcv, ha.val h, asBool]
    · rename_i hcv; simp [execOp, ho, ha.val hcv, ha.val h, asBool]
    · simp at h
  case nilc x =>
    have ho := co_nilc hc
    split at h
    · rename_i b hx; simp at h; subst h; simp [execOp, ho, ha.val hx]
    · simp at h
  case fld x off =>
    obtain ⟨t, i, ft, s, ho, hf, hs, hs0⟩ := co_fld hc
    obtain ⟨fs, f, hu, hfi, rfl, rfl⟩ := fld_und hf
    split at h
    · rename_i b o' hx
      simp at h; subst h
      simp [execOp, ho, ha.val hx, Instr.fieldAt, run_underlying hu, hfi, Instr.sureAddr, fieldPlace, size_run hs, hs0, addr_add]
    · simp at h
  case part x off g =>
    obtain ⟨t, i, ft, ho, hf, hg⟩ := co_part hc
    obtain ⟨fs, f, hu, hfi, rfl, rfl⟩ := fld_und hf
    obtain ⟨hg1, hg2⟩ := agg_run hg w
    cases g with
    | none =>
      simp only at h
      split at h
      · rename_i cs hx
        simp [execOp, ho, ha.val hx, Instr.field, run_underlying hu, hfi, asAgg, part, hg1, h]
      · simp at h
    | some n =>
      simp only at h
      split at h
      · rename_i cs hx
        simp at h; subst h
        simp [execOp, ho, ha.val hx, Instr.field, run_underlying hu, hfi, asAgg, part, hg1, hg2 n rfl]
      · simp at h
  case ext x i =>
    have ho := co_ext hc
    split at h
    · rename_i vs hx; simp [execOp, ho, ha.val hx, Instr.extract, h]
    · simp at h
  case un op x =>
    obtain ⟨t, ho⟩ := co_un hc
    cases op <;> simp only [] at h
    all_goals first | (simp at h; done) | skip
    split at h
    · rename_i b hb; simp at h; subst h; simp [execOp, ho, ha.val hb, Op.unary]
    · simp at h
  case lenS x =>
    obtain ⟨as, ts, t, el, ho, h1, h2, h3⟩ := co_lenS hc
    obtain rfl : as = #[x] := by cases as; simp_all
    obtain rfl : ts = #[t] := by cases ts; simp_all
    split at h
    · rename_i b n c hx; simp at h; subst h
      simp [execOp, ho, ha.val hx, resolve, invoke, builtin, Builtin.len_, run_underlying (elem_und h3), goInt]
    · simp at h
  case lenB x =>
    obtain ⟨as, ts, t, ho, h1, h2, h3⟩ := co_lenB hc
    obtain rfl : as = #[x] := by cases as; simp_all
    obtain rfl : ts = #[t] := by cases ts; simp_all
    split at h
    · rename_i b hx; simp at h; subst h
      simp [execOp, ho, ha.val hx, resolve, invoke, builtin, Builtin.len_, run_underlying (str_und h3), goInt]
    · simp at h
  case same x =>
    obtain ⟨s, d, ho, h1, h2⟩ := co_same hc
    split at h
    · rename_i b hx; simp at h; subst h
      simp [execOp, ho, ha.val hx, convert, run_underlying (str_und h1), run_underlying (str_und h2)]
    · simp at h
  case eq n c x y =>
    obtain ⟨t, yt, ho, hcl⟩ := co_eq hc
    cases c with
    | bool =>
      have hu : P.underlying t = some .bool := by
        unfold eqClass at hcl; (repeat' split at hcl) <;> simp_all
      simp only at h
      split at h
      · rename_i b1 b2 hx hy; simp at h; subst h
        have := run_equal_of (P := P) (w := w) t (.bool b1) (.bool b2) (b1 == b2) (fun d => by simp [Op.equalIn, run_underlying hu])
        cases n
        · have h2 : (binOp .eql t (.bool b1) (.bool b2)).run P w = .ok (.bool (b1 == b2)) w := by unfold binOp; simp only [Sem.run_bind, this, Result.andThen, Sem.run_pure]
          simp [execOp, ho, ha.val hx, ha.val hy, eqGuard, h2]
        · have h2 : (binOp .neq t (.bool b1) (.bool b2)).run P w = .ok (.bool (!(b1 == b2))) w := by unfold binOp; simp only [Sem.run_bind, this, Result.andThen, Sem.run_pure]
          simp [execOp, ho, ha.val hx, ha.val hy, eqGuard, h2]
      · simp at h
    | ptr =>
      have hu : ∃ el, P.underlying t = some (.pointer el) := by
        unfold eqClass at hcl; (repeat' split at hcl) <;> simp_all
      obtain ⟨el, hu⟩ := hu
      simp only at h
      split at h <;> simp at h <;> subst h
      all_goals
        rename_i hx hy
        first
        | have := run_equal_of (P := P) (w := w) t (.pointer none) (.pointer none) true (fun d => by simp [Op.equalIn, run_underlying hu])
          cases n <;> simp [execOp, ho, ha.val hx, ha.val hy, eqGuard, binOp_eql_ptr, binOp_neq_ptr, this]
          done
        | have := fun b => run_equal_of (P := P) (w := w) t (.pointer none) (.pointer (some b)) false (fun d => by simp [Op.equalIn, run_underlying hu])
          cases n <;> simp [execOp, ho, ha.val hx, ha.val hy, eqGuard, binOp_eql_ptr, binOp_neq_ptr, this]
          done
        | have := fun b => run_equal_of (P := P) (w := w) t (.pointer (some b)) (.pointer none) false (fun d => by simp [Op.equalIn, run_underlying hu])
          cases n <;> simp [execOp, ho, ha.val hx, ha.val hy, eqGuard, binOp_eql_ptr, binOp_neq_ptr, this]
          done
    | slice =>
      have hu : ∃ el, P.underlying t = some (.slice el) := by
        unfold eqClass at hcl; (repeat' split at hcl) <;> simp_all
      obtain ⟨el, hu⟩ := hu
      simp only at h
      split at h <;> simp at h <;> subst h
      all_goals
        rename_i hx hy
        first
        | have := fun a b c d => run_equal_of (P := P) (w := w) t (.slice none a b) (.slice none c d) true (fun d => by simp [Op.equalIn, run_underlying hu])
          cases n <;> simp [execOp, ho, ha.val hx, ha.val hy, eqGuard, binOp_eql_sl, binOp_neq_sl, this]
          done
        | have := fun a b x c d => run_equal_of (P := P) (w := w) t (.slice none a b) (.slice (some x) c d) false (fun d => by simp [Op.equalIn, run_underlying hu])
          cases n <;> simp [execOp, ho, ha.val hx, ha.val hy, eqGuard, binOp_eql_sl, binOp_neq_sl, this]
          done
        | have := fun a b x c d => run_equal_of (P := P) (w := w) t (.slice (some x) a b) (.slice none c d) false (fun d => by simp [Op.equalIn, run_underlying hu])
          cases n <;> simp [execOp, ho, ha.val hx, ha.val hy, eqGuard, binOp_eql_sl, binOp_neq_sl, this]
          done
    | agg n l => simp at h
  all_goals simp at h
end
end Go.HX
namespace Go.HX
open Go

def cmpProp : BinOp → Int → Int → Prop
  | .eql, a, b => a = b
  | .neq, a, b => a ≠ b
  | .lss, a, b => a < b
  | .leq, a, b => a ≤ b
  | .gtr, a, b => b < a
  | .geq, a, b => b ≤ a
  | _, _, _ => False
def isCmp : BinOp → Bool
  | .eql | .neq | .lss | .leq | .gtr | .geq => true
  | _ => false
instance (op : BinOp) (a b : Int) : Decidable (cmpProp op a b) := by
  cases op <;> unfold cmpProp <;> infer_instance

section
variable {P : Program} {fn : FuncId} {N : Nat} {e : Env} {w : World} {Q : Value → World → Prop} {k : List XI} {l : List XOp}
variable {t : TypeId} {x y : Operand} {a b : Int} {kd : IntKind} {op : BinOp}

theorem bin_run (hx : Env.val e x = some (.int kd a)) (hy : Env.val e y = some (.int kd b)) {v : Value} (hns : op ≠ .shl ∧ op ≠ .shr)
    (h : ∀ w : World, (match op with
    | .add | .sub | .mul => Op.intArith op kd a b
    | .quo | .rem => Op.intDiv op kd a b
    | .and | .or | .xor | .andNot => Op.intBits op kd a b
    | _ => Op.intCmp op a b).run P w = .ok v w) : Gives P N (.bin op t x y) e w v := by
  intro o c hc hA
  obtain ⟨yt, ho⟩ := co_bin hc
  have h2 := h w
  have hb : (binOp op t (.int kd a) (.int kd b)).run P w = .ok v w := by
    cases op <;> simp only [binOp, ne_eq, not_true_eq_false, if_false] at h2 ⊢ <;> first | exact h2 | simp_all
  have hg : (eqGuard op t x y (.int kd a) (.int kd b)).run P w = .ok () w := by
    cases op <;> simp [eqGuard]
  simp [execOp, ho, hA.val hx, hA.val hy, hg, hb]

theorem g_cmp (hx : Env.val e x = some (.int kd a)) (hy : Env.val e y = some (.int kd b)) (hop : isCmp op = true) : Gives P N (.bin op t x y) e w (.bool (decide (cmpProp op a b))) :=
  bin_run hx hy (by cases op <;> simp_all [isCmp]) (fun w => by
    cases op <;> simp_all [isCmp, Op.intCmp, cmpProp]
    · by_cases h : a = b <;> simp [h]
    · by_cases h : a = b <;> simp [h])

variable {dst : Option Nat} {g : Option (Nat × Bool)}
theorem p_cmp_t (hg : wantedE e g = some true) (hx : Env.val e x = some (.int kd a)) (hy : Env.val e y = some (.int kd b)) (hop : isCmp op = true) (hp : cmpProp op a b)
    (h : XOps P fn N l k (Env.put e dst (.bool true)) w Q) : XOps P fn N (⟨dst, g, .bin op t x y⟩ :: l) k e w Q :=
  p_val hg (g_cmp hx hy hop) (by rw [decide_eq_true hp]; exact h)
theorem p_cmp_f (hg : wantedE e g = some true) (hx : Env.val e x = some (.int kd a)) (hy : Env.val e y = some (.int kd b)) (hop : isCmp op = true) (hp : ¬ cmpProp op a b)
    (h : XOps P fn N l k (Env.put e dst (.bool false)) w Q) : XOps P fn N (⟨dst, g, .bin op t x y⟩ :: l) k e w Q :=
  p_val hg (g_cmp hx hy hop) (by rw [decide_eq_false hp]; exact h)
theorem p_cmp (hg : wantedE e g = some true) (hx : Env.val e x = some (.int kd a)) (hy : Env.val e y = some (.int kd b)) (hop : isCmp op = true)
    (h1 : cmpProp op a b → XOps P fn N l k (Env.put e dst (.bool true)) w Q) (h2 : ¬ cmpProp op a b → XOps P fn N l k (Env.put e dst (.bool false)) w Q) : XOps P fn N (⟨dst, g, .bin op t x y⟩ :: l) k e w Q := by
  by_cases hp : cmpProp op a b
  · exact p_cmp_t hg hx hy hop hp (h1 hp)
  · exact p_cmp_f hg hx hy hop hp (h2 hp)

theorem wrap_i64_in {n : Int} (h1 : -9223372036854775808 ≤ n) (h2 : n ≤ 9223372036854775807) : IntKind.i64.wrap n = n := by
  rw [IntKind.wrap_i64]; omega
theorem wrap_u64 (n : Int) : IntKind.u64.wrap n = n % 18446744073709551616 := by
  unfold IntKind.wrap; simp [IntKind.bits, IntKind.signed]
theorem wrap_u64_in {n : Int} (h1 : 0 ≤ n) (h2 : n ≤ 18446744073709551615) : IntKind.u64.wrap n = n := by
  rw [wrap_u64]; omega
theorem wrap_u8 (n : Int) : IntKind.u8.wrap n = n % 256 := by
  unfold IntKind.wrap; simp [IntKind.bits, IntKind.signed]

/-- int: a sum that fits. -/
theorem g_add_i (hx : Env.val e x = some (.int .i64 a)) (hy : Env.val e y = some (.int .i64 b)) (h1 : -9223372036854775808 ≤ a + b) (h2 : a + b ≤ 9223372036854775807) : Gives P N (.bin .add t x y) e w (.int .i64 (a + b)) :=
  bin_run hx hy (by simp) (fun w => by simp [Op.intArith, wrap_i64_in h1 h2])
theorem g_sub_i (hx : Env.val e x = some (.int .i64 a)) (hy : Env.val e y = some (.int .i64 b)) (h1 : -9223372036854775808 ≤ a - b) (h2 : a - b ≤ 9223372036854775807) : Gives P N (.bin .sub t x y) e w (.int .i64 (a - b)) :=
  bin_run hx hy (by simp) (fun w => by simp [Op.intArith, wrap_i64_in h1 h2])
theorem g_mul_i (hx : Env.val e x = some (.int .i64 a)) (hy : Env.val e y = some (.int .i64 b)) (h1 : -9223372036854775808 ≤ a * b) (h2 : a * b ≤ 9223372036854775807) : Gives P N (.bin .mul t x y) e w (.int .i64 (a * b)) :=
  bin_run hx hy (by simp) (fun w => by simp [Op.intArith, wrap_i64_in h1 h2])
theorem g_quo_i (hx : Env.val e x = some (.int .i64 a)) (hy : Env.val e y = some (.int .i64 b)) (h0 : 0 ≤ a) (h1 : a ≤ 9223372036854775807) (h2 : 0 < b) : Gives P N (.bin .quo t x y) e w (.int .i64 (a / b)) :=
  bin_run hx hy (by simp) (fun w => by
    have hb : ¬ b = 0 := by omega
    have h3 : a / b ≤ a := Int.ediv_le_self b h0
    have h4 : 0 ≤ a / b := Int.ediv_nonneg h0 (by omega)
    simp [Op.intDiv, hb, Int.tdiv_eq_ediv_of_nonneg h0, wrap_i64_in (n := a / b) (by omega) (by omega)])
theorem g_rem_i (hx : Env.val e x = some (.int kd a)) (hy : Env.val e y = some (.int kd b)) (h0 : 0 ≤ a) (h2 : 0 < b) : Gives P N (.bin .rem t x y) e w (.int kd (a % b)) :=
  bin_run hx hy (by simp) (fun w => by
    have hb : ¬ b = 0 := by omega
    simp [Op.intDiv, hb, Int.tmod_eq_emod_of_nonneg h0])
/-- uint64 -/
theorem g_add_u (hx : Env.val e x = some (.int .u64 a)) (hy : Env.val e y = some (.int .u64 b)) (h1 : 0 ≤ a + b) (h2 : a + b ≤ 18446744073709551615) : Gives P N (.bin .add t x y) e w (.int .u64 (a + b)) :=
  bin_run hx hy (by simp) (fun w => by simp [Op.intArith, wrap_u64_in h1 h2])
theorem g_sub_u (hx : Env.val e x = some (.int .u64 a)) (hy : Env.val e y = some (.int .u64 b)) (h1 : 0 ≤ a - b) (h2 : a - b ≤ 18446744073709551615) : Gives P N (.bin .sub t x y) e w (.int .u64 (a - b)) :=
  bin_run hx hy (by simp) (fun w => by simp [Op.intArith, wrap_u64_in h1 h2])
theorem g_mul_u (hx : Env.val e x = some (.int .u64 a)) (hy : Env.val e y = some (.int .u64 b)) (h1 : 0 ≤ a * b) (h2 : a * b ≤ 18446744073709551615) : Gives P N (.bin .mul t x y) e w (.int .u64 (a * b)) :=
  bin_run hx hy (by simp) (fun w => by simp [Op.intArith, wrap_u64_in h1 h2])
theorem g_addw_u (hx : Env.val e x = some (.int .u64 a)) (hy : Env.val e y = some (.int .u64 b)) : Gives P N (.bin .add t x y) e w (.int .u64 ((a + b) % 18446744073709551616)) :=
  bin_run hx hy (by simp) (fun w => by simp [Op.intArith, wrap_u64])
theorem g_subw_u (hx : Env.val e x = some (.int .u64 a)) (hy : Env.val e y = some (.int .u64 b)) : Gives P N (.bin .sub t x y) e w (.int .u64 ((a - b) % 18446744073709551616)) :=
  bin_run hx hy (by simp) (fun w => by simp [Op.intArith, wrap_u64])
theorem g_mulw_u (hx : Env.val e x = some (.int .u64 a)) (hy : Env.val e y = some (.int .u64 b)) : Gives P N (.bin .mul t x y) e w (.int .u64 ((a * b) % 18446744073709551616)) :=
  bin_run hx hy (by simp) (fun w => by simp [Op.intArith, wrap_u64])
theorem g_quo_u (hx : Env.val e x = some (.int .u64 a)) (hy : Env.val e y = some (.int .u64 b)) (h0 : 0 ≤ a) (h1 : a ≤ 18446744073709551615) (h2 : 0 < b) : Gives P N (.bin .quo t x y) e w (.int .u64 (a / b)) :=
  bin_run hx hy (by simp) (fun w => by
    have hb : ¬ b = 0 := by omega
    have h3 : a / b ≤ a := Int.ediv_le_self b h0
    have h4 : 0 ≤ a / b := Int.ediv_nonneg h0 (by omega)
    simp [Op.intDiv, hb, Int.tdiv_eq_ediv_of_nonneg h0, wrap_u64_in (n := a / b) (by omega) (by omega)])

/-- wrapped int -/
theorem g_addw_i (hx : Env.val e x = some (.int .i64 a)) (hy : Env.val e y = some (.int .i64 b)) : Gives P N (.bin .add t x y) e w (.int .i64 (RowKit.wrap64 (a + b))) :=
  bin_run hx hy (by simp) (fun w => by simp [Op.intArith, IntKind.wrap_i64, RowKit.wrap64])
theorem g_subw_i (hx : Env.val e x = some (.int .i64 a)) (hy : Env.val e y = some (.int .i64 b)) : Gives P N (.bin .sub t x y) e w (.int .i64 (RowKit.wrap64 (a - b))) :=
  bin_run hx hy (by simp) (fun w => by simp [Op.intArith, IntKind.wrap_i64, RowKit.wrap64])

/-! bits of a uint64, as numbers -/
theorem ofInt_toNat64 {a : Int} (h0 : 0 ≤ a) (h1 : a ≤ 18446744073709551615) : (BitVec.ofInt 64 a).toNat = a.toNat := by
  rw [BitVec.toNat_ofInt]
  congr 1
  simp
  omega
theorem g_and_u (hx : Env.val e x = some (.int .u64 a)) (hy : Env.val e y = some (.int .u64 b)) (a0 : 0 ≤ a) (a1 : a ≤ 18446744073709551615) (b0 : 0 ≤ b) (b1 : b ≤ 18446744073709551615) : Gives P N (.bin .and t x y) e w (.int .u64 ((a.toNat &&& b.toNat : Nat) : Int)) :=
  bin_run hx hy (by simp) (fun w => by
    have h3 : a.toNat &&& b.toNat < 2 ^ 64 := Nat.and_lt_two_pow _ (by omega)
    have hh : (BitVec.ofInt 64 a &&& BitVec.ofInt 64 b).toNat = a.toNat &&& b.toNat := by rw [BitVec.toNat_and, ofInt_toNat64 a0 a1, ofInt_toNat64 b0 b1]
    show Result.ok (Value.int .u64 (IntKind.u64.wrap ((BitVec.ofInt 64 a &&& BitVec.ofInt 64 b).toNat : Int))) w = _
    rw [hh, wrap_u64_in (by omega) (by omega)])
theorem g_or_u (hx : Env.val e x = some (.int .u64 a)) (hy : Env.val e y = some (.int .u64 b)) (a0 : 0 ≤ a) (a1 : a ≤ 18446744073709551615) (b0 : 0 ≤ b) (b1 : b ≤ 18446744073709551615) : Gives P N (.bin .or t x y) e w (.int .u64 ((a.toNat ||| b.toNat : Nat) : Int)) :=
  bin_run hx hy (by simp) (fun w => by
    have h3 : a.toNat ||| b.toNat < 2 ^ 64 := Nat.or_lt_two_pow (by omega) (by omega)
    have hh : (BitVec.ofInt 64 a ||| BitVec.ofInt 64 b).toNat = a.toNat ||| b.toNat := by rw [BitVec.toNat_or, ofInt_toNat64 a0 a1, ofInt_toNat64 b0 b1]
    show Result.ok (Value.int .u64 (IntKind.u64.wrap ((BitVec.ofInt 64 a ||| BitVec.ofInt 64 b).toNat : Int))) w = _
    rw [hh, wrap_u64_in (by omega) (by omega)])
theorem g_xor_u (hx : Env.val e x = some (.int .u64 a)) (hy : Env.val e y = some (.int .u64 b)) (a0 : 0 ≤ a) (a1 : a ≤ 18446744073709551615) (b0 : 0 ≤ b) (b1 : b ≤ 18446744073709551615) : Gives P N (.bin .xor t x y) e w (.int .u64 ((a.toNat ^^^ b.toNat : Nat) : Int)) :=
  bin_run hx hy (by simp) (fun w => by
    have h3 : a.toNat ^^^ b.toNat < 2 ^ 64 := Nat.xor_lt_two_pow (by omega) (by omega)
    have hh : (BitVec.ofInt 64 a ^^^ BitVec.ofInt 64 b).toNat = a.toNat ^^^ b.toNat := by rw [BitVec.toNat_xor, ofInt_toNat64 a0 a1, ofInt_toNat64 b0 b1]
    show Result.ok (Value.int .u64 (IntKind.u64.wrap ((BitVec.ofInt 64 a ^^^ BitVec.ofInt 64 b).toNat : Int))) w = _
    rw [hh, wrap_u64_in (by omega) (by omega)])
theorem g_andNot_u (hx : Env.val e x = some (.int .u64 a)) (hy : Env.val e y = some (.int .u64 b)) (a0 : 0 ≤ a) (a1 : a ≤ 18446744073709551615) (b0 : 0 ≤ b) (b1 : b ≤ 18446744073709551615) : Gives P N (.bin .andNot t x y) e w (.int .u64 ((a.toNat &&& (18446744073709551615 - b.toNat) : Nat) : Int)) :=
  bin_run hx hy (by simp) (fun w => by
    have h3 : a.toNat &&& (18446744073709551615 - b.toNat) < 2 ^ 64 := Nat.and_lt_two_pow _ (by omega)
    have hh : (BitVec.ofInt 64 a &&& ~~~BitVec.ofInt 64 b).toNat = a.toNat &&& (18446744073709551615 - b.toNat) := by
      rw [BitVec.toNat_and, BitVec.toNat_not, ofInt_toNat64 a0 a1, ofInt_toNat64 b0 b1]
    show Result.ok (Value.int .u64 (IntKind.u64.wrap ((BitVec.ofInt 64 a &&& ~~~BitVec.ofInt 64 b).toNat : Int))) w = _
    rw [hh, wrap_u64_in (by omega) (by omega)])
/-- ^x of a uint64 -/
theorem g_com_u (hx : Env.val e x = some (.int .u64 a)) (a0 : 0 ≤ a) (a1 : a ≤ 18446744073709551615) : Gives P N (.un .xor x) e w (.int .u64 (18446744073709551615 - a)) := by
  intro o c hc hA
  obtain ⟨yt, ho⟩ := co_un hc
  have h1 : (Op.unary .xor (.int .u64 a)).run P w = .ok (.int .u64 (18446744073709551615 - a)) w := by
    have h2 : (BitVec.ofInt 64 18446744073709551615 ^^^ BitVec.ofInt 64 a).toNat = 18446744073709551615 - a.toNat := by
      rw [show (BitVec.ofInt 64 (18446744073709551615 : Int)) = BitVec.allOnes 64 by decide]
      rw [BitVec.allOnes_xor, BitVec.toNat_not, ofInt_toNat64 a0 a1]
    show Result.ok (Value.int .u64 (IntKind.u64.wrap ((BitVec.ofInt 64 18446744073709551615 ^^^ BitVec.ofInt 64 a).toNat : Int))) w = _
    rw [h2, wrap_u64_in (by omega) (by omega)]
    congr 2
    omega
  simp [execOp, ho, hA.val hx, h1]

/-- shifts of a uint64 -/
def shl64 (a n : Int) : Int := (a * 2 ^ min n.toNat 64) % 18446744073709551616
def shr64 (a n : Int) : Int := a / 2 ^ min n.toNat 64
theorem g_shl_u {k2 : IntKind} (hx : Env.val e x = some (.int .u64 a)) (hy : Env.val e y = some (.int k2 b)) (b0 : 0 ≤ b) : Gives P N (.bin .shl t x y) e w (.int .u64 (shl64 a b)) := by
  intro o c hc hA
  obtain ⟨yt, ho⟩ := co_bin hc
  have hb : ¬ b < 0 := by omega
  simp [execOp, ho, hA.val hx, hA.val hy, eqGuard, binOp, Op.shift, hb, wrap_u64, shl64, IntKind.bits]
theorem g_shr_u {k2 : IntKind} (hx : Env.val e x = some (.int .u64 a)) (hy : Env.val e y = some (.int k2 b)) (b0 : 0 ≤ b) : Gives P N (.bin .shr t x y) e w (.int .u64 (shr64 a b)) := by
  intro o c hc hA
  obtain ⟨yt, ho⟩ := co_bin hc
  have hb : ¬ b < 0 := by omega
  have hp : (0 : Int) ≤ 2 ^ min b.toNat 64 := Int.pow_nonneg (by decide)
  simp [execOp, ho, hA.val hx, hA.val hy, eqGuard, binOp, Op.shift, hb, shr64, IntKind.bits, Int.fdiv_eq_ediv_of_nonneg _ hp]

/-! conversions of whole numbers -/
theorem conv_run {kd' : IntKind} {v : Int} (hx : Env.val e x = some (.int kd a)) (h : kd'.wrap a = v) : Gives P N (.conv kd' x) e w (.int kd' v) := by
  intro o c hc hA
  obtain ⟨s, d, k', ho, h1, h2⟩ := co_conv hc
  simp [execOp, ho, hA.val hx, convert, run_underlying (int_und h1), run_underlying (int_und h2), Conv.intToInt, h]
theorem g_conv_i (hx : Env.val e x = some (.int kd a)) (h1 : -9223372036854775808 ≤ a) (h2 : a ≤ 9223372036854775807) : Gives P N (.conv .i64 x) e w (.int .i64 a) := conv_run hx (wrap_i64_in h1 h2)
theorem g_convw_i (hx : Env.val e x = some (.int kd a)) : Gives P N (.conv .i64 x) e w (.int .i64 (RowKit.wrap64 a)) := conv_run hx (by rw [IntKind.wrap_i64, RowKit.wrap64])
theorem g_conv_u (hx : Env.val e x = some (.int kd a)) (h1 : 0 ≤ a) (h2 : a ≤ 18446744073709551615) : Gives P N (.conv .u64 x) e w (.int .u64 a) := conv_run hx (wrap_u64_in h1 h2)
theorem g_convw_u (hx : Env.val e x = some (.int kd a)) : Gives P N (.conv .u64 x) e w (.int .u64 (a % 18446744073709551616)) := conv_run hx (wrap_u64 a)
theorem g_convw_u8 (hx : Env.val e x = some (.int kd a)) : Gives P N (.conv .u8 x) e w (.int .u8 (a % 256)) := conv_run hx (wrap_u8 a)

/-! a slice's element's place -/
theorem g_idx {i : Operand} {s : Nat} {bk of len cap : Nat} {j : Int} {kd : IntKind} (hx : Env.val e x = some (.slice (some ⟨bk, of, none⟩) len cap)) (hi : Env.val e i = some (.int kd j)) (h0 : 0 ≤ j) (h1 : j < len) :
    Gives P N (.idx x i s) e w (.pointer (some ⟨bk, of + j.toNat * s, none⟩)) := by
  intro o c hc hA
  obtain ⟨t, el, ho, he, hs⟩ := co_idx hc
  simp [execOp, ho, hA.val hx, hA.val hi, Instr.indexAt, asIntOf, run_underlying (elem_und he), h0, h1, size_run hs, addr_add]
/-- a byte of a string -/
theorem g_ixs {i : Operand} {s : ByteArray} {j : Int} {kd : IntKind} (hx : Env.val e x = some (.string s)) (hi : Env.val e i = some (.int kd j)) (h0 : 0 ≤ j) (h1 : j < s.size) :
    Gives P N (.ixs x i) e w (.int .u8 ((s[j.toNat]!).toNat : Nat)) := by
  intro o c hc hA
  obtain ⟨t, ho, hs⟩ := co_ixs hc
  have hlt : j.toNat < s.size := by omega
  simp [execOp, ho, hA.val hx, hA.val hi, Instr.index, asIntOf, run_underlying (str_und hs), h0, getElem?_pos s j.toNat hlt, getElem!_pos s j.toNat hlt]
theorem g_ixsN {i : Operand} {s : ByteArray} {j : Int} {n : Nat} {kd : IntKind} (hx : Env.val e x = some (.string s)) (hi : Env.val e i = some (.int kd j)) (hj : j = n) (h1 : n < s.size) :
    Gives P N (.ixs x i) e w (.int .u8 ((s[n]!).toNat : Nat)) := by
  subst hj
  have := g_ixs (P := P) (N := N) (w := w) hx hi (by omega) (by omega)
  rwa [Int.toNat_natCast] at this
end
end Go.HX
namespace Go.HX
open Go Go.RowKit

abbrev Hp := Nat → Option Obj
abbrev HProp := Hp → Prop
def emp : HProp := fun H => H = fun _ => none
def pt (b : Nat) (o : Obj) : HProp := fun H => H = fun i => if i = b then some o else none
def Hun (H1 H2 : Hp) : Hp := fun i => match H1 i with
  | some o => some o
  | none => H2 i
def Hdis (H1 H2 : Hp) : Prop := ∀ i, H1 i = none ∨ H2 i = none
def sep (A B : HProp) : HProp := fun H => ∃ H1 H2, A H1 ∧ B H2 ∧ Hdis H1 H2 ∧ H = Hun H1 H2
def hex {α : Type} (A : α → HProp) : HProp := fun H => ∃ x, A x H
def hpure (p : Prop) (A : HProp) : HProp := fun H => p ∧ A H

theorem Hun_comm {H1 H2 : Hp} (h : Hdis H1 H2) : Hun H1 H2 = Hun H2 H1 := by
  funext i; unfold Hun
  rcases h i with h | h <;> rw [h] <;> simp
  · cases H2 i <;> rfl
  · cases H1 i <;> rfl
theorem Hun_assoc (H1 H2 H3 : Hp) : Hun (Hun H1 H2) H3 = Hun H1 (Hun H2 H3) := by
  funext i; unfold Hun; cases H1 i <;> rfl
theorem Hun_none {H1 H2 : Hp} {i : Nat} : Hun H1 H2 i = none ↔ H1 i = none ∧ H2 i = none := by
  unfold Hun; cases H1 i <;> simp
theorem sep_comm (A B : HProp) : sep A B = sep B A := by
  have key : ∀ A B : HProp, ∀ H, sep A B H → sep B A H := fun A B H ⟨H1, H2, a, b, d, e⟩ => ⟨H2, H1, b, a, fun i => (d i).symm, by rw [e, Hun_comm d]⟩
  funext H; exact propext ⟨key A B H, key B A H⟩
theorem sep_assoc (A B C : HProp) : sep (sep A B) C = sep A (sep B C) := by
  funext H; apply propext
  constructor
  · rintro ⟨H12, H3, ⟨H1, H2, a, b, d1, rfl⟩, c, d2, rfl⟩
    refine ⟨H1, Hun H2 H3, a, ⟨H2, H3, b, c, fun i => ?_, rfl⟩, fun i => ?_, Hun_assoc _ _ _⟩
    · rcases d2 i with h | h
      · exact .inl (Hun_none.1 h).2
      · exact .inr h
    · rcases d2 i with h | h
      · exact .inl (Hun_none.1 h).1
      · rcases d1 i with h' | h'
        · exact .inl h'
        · exact .inr (Hun_none.2 ⟨h', h⟩)
  · rintro ⟨H1, H23, a, ⟨H2, H3, b, c, d1, rfl⟩, d2, rfl⟩
    refine ⟨Hun H1 H2, H3, ⟨H1, H2, a, b, fun i => ?_, rfl⟩, c, fun i => ?_, (Hun_assoc _ _ _).symm⟩
    · rcases d2 i with h | h
      · exact .inl h
      · exact .inr (Hun_none.1 h).1
    · rcases d1 i with h | h
      · rcases d2 i with h' | h'
        · exact .inl (Hun_none.2 ⟨h', h⟩)
        · exact .inr (Hun_none.1 h').2
      · exact .inr h

def sepL : List HProp → HProp
  | [] => emp
  | A :: G => sep A (sepL G)

/-- Where a call began: what is owned was made since. -/
structure SP where
  base : Nat
  w0 : World

structure Sat (S : SP) (w : World) (G : List HProp) : Prop where
  below : Below S.base S.w0 w
  le : S.base ≤ S.w0.heap.size
  own : ∃ H, sepL G H ∧ ∀ i o, H i = some o → w.heap[i]? = some o ∧ S.base ≤ i

inductive Has : List HProp → HProp → List HProp → Prop
  | here {A : HProp} {G : List HProp} : Has (A :: G) A G
  | there {A B : HProp} {G G' : List HProp} (h : Has G A G') : Has (B :: G) A (B :: G')

theorem Has.eq {G G' : List HProp} {A : HProp} (h : Has G A G') : sepL G = sepL (A :: G') := by
  induction h with
  | here => rfl
  | @there A B G G' h ih =>
    show sep B (sepL G) = sep A (sep B (sepL G'))
    rw [ih]
    show sep B (sep A (sepL G')) = _
    rw [← sep_assoc, ← sep_assoc, sep_comm B A]

inductive Sub : List HProp → List HProp → Prop
  | refl (G : List HProp) : Sub G G
  | nil (G : List HProp) : Sub [] G
  | cons {A : HProp} {G G1 G' : List HProp} (h : Has G A G1) (r : Sub G' G1) : Sub (A :: G') G
  | skip {A : HProp} {G G' : List HProp} (r : Sub G' G) : Sub G' (A :: G)

section
variable {S : SP} {w w' : World} {G G' : List HProp} {A B : HProp}
theorem Sat.eq (h : Sat S w G) (he : sepL G = sepL G') : Sat S w G' := ⟨h.below, h.le, by rw [← he]; exact h.own⟩
theorem Sat.pick (h : Sat S w G) (hh : Has G A G') : Sat S w (A :: G') := h.eq hh.eq
theorem Sat.drop (h : Sat S w (A :: G)) : Sat S w G := by
  obtain ⟨H, ⟨H1, H2, a, b, d, rfl⟩, ho⟩ := h.own
  refine ⟨h.below, h.le, H2, b, fun i o hi => ho i o ?_⟩
  unfold Hun
  rcases d i with h' | h'
  · rw [h']; exact hi
  · rw [h'] at hi; cases hi
theorem Sat.mono (h : Sat S w (A :: G)) (hab : ∀ H, A H → B H) : Sat S w (B :: G) := by
  obtain ⟨H, ⟨H1, H2, a, b, d, rfl⟩, ho⟩ := h.own
  exact ⟨h.below, h.le, _, ⟨H1, H2, hab _ a, b, d, rfl⟩, ho⟩
theorem Sat.nil (h : Sat S w G) : Sat S w [] := ⟨h.below, h.le, fun _ => none, rfl, fun i o hi => by cases hi⟩
theorem sep_mono_r {A B C : HProp} (h : ∀ H, B H → C H) : ∀ H, sep A B H → sep A C H := fun _ ⟨H1, H2, a, b, d, e⟩ => ⟨H1, H2, a, h _ b, d, e⟩
theorem Sub.part (hs : Sub G' G) : ∀ H, sepL G H → ∃ H', sepL G' H' ∧ ∀ i o, H' i = some o → H i = some o := by
  induction hs with
  | refl => exact fun H h => ⟨H, h, fun _ _ h => h⟩
  | nil => exact fun H h => ⟨fun _ => none, rfl, fun i o hi => by cases hi⟩
  | cons hh r ih =>
    intro H h
    rw [hh.eq] at h
    obtain ⟨H1, H2, a, b, d, rfl⟩ := h
    obtain ⟨H2', b', hle⟩ := ih H2 b
    have hd : Hdis H1 H2' := fun i => by
      rcases d i with h' | h'
      · exact .inl h'
      · refine .inr ?_
        cases hi : H2' i with
        | none => rfl
        | some o => rw [hle i o hi] at h'; cases h'
    refine ⟨Hun H1 H2', ⟨H1, H2', a, b', hd, rfl⟩, fun i o hi => ?_⟩
    unfold Hun at hi ⊢
    cases h1 : H1 i with
    | some o' => rw [h1] at hi; exact hi
    | none => rw [h1] at hi; exact hle i o hi
  | skip r ih =>
    intro H h
    obtain ⟨H1, H2, a, b, d, rfl⟩ := h
    obtain ⟨H2', b', hle⟩ := ih H2 b
    refine ⟨H2', b', fun i o hi => ?_⟩
    have h2 := hle i o hi
    unfold Hun
    rcases d i with h' | h'
    · rw [h']; exact h2
    · rw [h'] at h2; cases h2
theorem Sat.sub (h : Sat S w G) (hs : Sub G' G) : Sat S w G' := by
  obtain ⟨H, g, ho⟩ := h.own
  obtain ⟨H', g', hle⟩ := hs.part H g
  exact ⟨h.below, h.le, H', g', fun i o hi => ho i o (hle i o hi)⟩

theorem Sat_sep : Sat S w (sep A B :: G) ↔ Sat S w (A :: B :: G) :=
  ⟨fun h => h.eq (sep_assoc _ _ _), fun h => h.eq (sep_assoc _ _ _).symm⟩
theorem Sat_ex {α : Type} {A : α → HProp} : Sat S w (hex A :: G) ↔ ∃ x, Sat S w (A x :: G) := by
  constructor
  · intro h
    obtain ⟨H, ⟨H1, H2, ⟨x, a⟩, b, d, rfl⟩, ho⟩ := h.own
    exact ⟨x, h.below, h.le, _, ⟨H1, H2, a, b, d, rfl⟩, ho⟩
  · rintro ⟨x, h⟩
    exact h.mono (fun H a => ⟨x, a⟩)
theorem Sat_pure {p : Prop} : Sat S w (hpure p A :: G) ↔ p ∧ Sat S w (A :: G) := by
  constructor
  · intro h
    obtain ⟨H, ⟨H1, H2, ⟨hp, a⟩, b, d, rfl⟩, ho⟩ := h.own
    exact ⟨hp, h.below, h.le, _, ⟨H1, H2, a, b, d, rfl⟩, ho⟩
  · rintro ⟨hp, h⟩
    exact h.mono (fun H a => ⟨hp, a⟩)
theorem Sat_emp : Sat S w (emp :: G) ↔ Sat S w G := by
  constructor
  · exact fun h => h.drop
  · intro h
    obtain ⟨H, hg, ho⟩ := h.own
    refine ⟨h.below, h.le, H, ⟨fun _ => none, H, rfl, hg, fun i => .inl rfl, rfl⟩, ho⟩

theorem Sat.block {b : Nat} {o : Obj} (h : Sat S w (pt b o :: G)) : w.heap[b]? = some o := by
  obtain ⟨H, ⟨H1, H2, a, _, d, rfl⟩, ho⟩ := h.own
  unfold pt at a
  subst a
  exact (ho b o (by simp [Hun])).1
theorem Sat.at {b : Nat} {o : Obj} (h : Sat S w G) (hh : Has G (pt b o) G') : w.heap[b]? = some o := (h.pick hh).block
theorem Sat.ge {b : Nat} {o : Obj} (h : Sat S w (pt b o :: G)) : S.base ≤ b := by
  obtain ⟨H, ⟨H1, H2, a, _, d, rfl⟩, ho⟩ := h.own
  unfold pt at a
  subst a
  exact (ho b o (by simp [Hun])).2

/-- Another heap, that differs in one owned block. -/
theorem Sat.write {b : Nat} {o o' : Obj} (h : Sat S w (pt b o :: G)) (hos : w'.os = w.os) (ht : w'.tape = w.tape) (hout : w'.output = w.output) (hsz : w.heap.size ≤ w'.heap.size)
    (hb : w'.heap[b]? = some o') (hne : ∀ i, i ≠ b → i < w.heap.size → w'.heap[i]? = w.heap[i]?) : Sat S w' (pt b o' :: G) := by
  have hge := h.ge
  obtain ⟨H, ⟨H1, H2, a, g, d, rfl⟩, ho⟩ := h.own
  unfold pt at a
  subst a
  have hlt : ∀ i, i < S.base → i < w.heap.size := fun i hi => Nat.lt_of_lt_of_le hi (Nat.le_trans h.le h.below.size)
  refine ⟨h.below.trans ⟨hos, ht, hout, hsz, fun i hi => hne i (by omega) (hlt i hi)⟩, h.le, Hun (fun i => if i = b then some o' else none) H2, ⟨_, H2, rfl, g, fun i => ?_, rfl⟩, fun i o1 hi => ?_⟩
  · by_cases hib : i = b
    · subst hib
      refine .inr ((d i).resolve_left (by simp))
    · exact .inl (by simp [hib])
  · unfold Hun at hi
    by_cases hib : i = b
    · subst hib
      simp at hi
      subst hi
      exact ⟨hb, hge⟩
    · simp [hib] at hi
      have h1 := ho i o1 (by simp [Hun, hib, hi])
      refine ⟨?_, h1.2⟩
      rw [hne i hib (Array.getElem?_eq_some_iff.1 h1.1).1]
      exact h1.1

/-- A world whose heap is the same. -/
theorem Sat.heapEq (h : Sat S w G) (hos : w'.os = w.os) (ht : w'.tape = w.tape) (hout : w'.output = w.output) (hh : w'.heap = w.heap) : Sat S w' G := by
  obtain ⟨H, g, ho⟩ := h.own
  exact ⟨h.below.trans ⟨hos, ht, hout, by rw [hh]; exact Nat.le_refl _, fun i _ => by rw [hh]⟩, h.le, H, g, fun i o hi => by rw [hh]; exact ho i o hi⟩
theorem Sat.drew (h : Sat S w G) : Sat S w.drew G := h.heapEq rfl rfl rfl rfl

theorem Sat.alloc (h : Sat S w G) (o : Obj) : Sat S (w.alloc o) (pt w.heap.size o :: G) := by
  obtain ⟨H, g, ho⟩ := h.own
  have hlt : ∀ i, i < S.base → i < w.heap.size := fun i hi => Nat.lt_of_lt_of_le hi (Nat.le_trans h.le h.below.size)
  have hold : ∀ i, i < w.heap.size → (w.alloc o).heap[i]? = w.heap[i]? := fun i hi => Below.heap_alloc w o i hi
  have hnew : (w.alloc o).heap[w.heap.size]? = some o := heap_alloc_new w o
  have hbs : S.base ≤ w.heap.size := Nat.le_trans h.le h.below.size
  refine ⟨h.below.trans ⟨rfl, rfl, rfl, by simp, fun i hi => hold i (hlt i hi)⟩, h.le, Hun (fun i => if i = w.heap.size then some o else none) H, ⟨_, H, rfl, g, fun i => ?_, rfl⟩, fun i o1 hi => ?_⟩
  · by_cases hib : i = w.heap.size
    · refine .inr ?_
      cases hi : H i with
      | none => rfl
      | some o1 => have := (Array.getElem?_eq_some_iff.1 (ho i o1 hi).1).1; omega
    · exact .inl (by simp [hib])
  · unfold Hun at hi
    by_cases hib : i = w.heap.size
    · subst hib
      simp at hi
      subst hi
      exact ⟨hnew, hbs⟩
    · simp [hib] at hi
      have h1 := ho i o1 hi
      exact ⟨by rw [hold i (Array.getElem?_eq_some_iff.1 h1.1).1]; exact h1.1, h1.2⟩

/-- The blocks of two parts are two. -/
theorem Sat.ne {b b' : Nat} {o o' : Obj} (h : Sat S w (pt b o :: pt b' o' :: G)) : b ≠ b' := by
  obtain ⟨H, ⟨H1, H2, a, ⟨H3, H4, a2, _, _, rfl⟩, d, rfl⟩, ho⟩ := h.own
  unfold pt at a a2
  subst a
  subst a2
  intro he
  subst he
  rcases d b with h | h
  · simp at h
  · simp [Hun] at h

/-- What stood there when the call began stands there. -/
theorem Sat.old (h : Sat S w G) {b : Nat} (hb : b < S.base) : w.heap[b]? = S.w0.heap[b]? := h.below.block b hb
theorem Sat.begin (w : World) : Sat ⟨w.heap.size, w⟩ w [] := ⟨Below.refl _ _, Nat.le_refl _, fun _ => none, rfl, fun i o hi => by cases hi⟩
end
end Go.HX
namespace Go.HX
open Go Go.RowKit

/-- A slice that owns its block: its elements' cells, then spare room. -/
def ownS (E : TypeId) (n : Nat) (v : Value) (cs : List Value) : HProp := fun H =>
  (v = .slice none 0 0 ∧ cs = [] ∧ emp H) ∨
  ∃ b len cap spare, v = .slice (some ⟨b, 0, none⟩) len cap ∧ cs.length = len * n ∧ len ≤ cap ∧ cap ≤ maxLen ∧ spare.length = (cap - len) * n ∧ pt b (.cells (cs ++ spare).toArray E (0, 0)) H

/-- A slice reads as a list of cells. -/
def RdS (w : World) (n : Nat) (v : Value) (cs : List Value) : Prop :=
  ∃ a len cap, v = .slice a len cap ∧ len ≤ cap ∧ cs.length = len * n ∧ (0 < len → ∃ b o, a = some ⟨b, o, none⟩ ∧ ∀ j u, cs[j]? = some u → w.cell? ⟨b, o + j, none⟩ = some u)

section
variable {P : Program} {fn : FuncId} {N : Nat} {e : Env} {w w' : World} {Q : Value → World → Prop} {k : List XI} {l : List XOp}
variable {S : SP} {G G' : List HProp} {x y : Operand}

theorem cell_of_heap {b o : Nat} {c : Array Value} {E : TypeId} {fr : Nat × Nat} {v : Value} (h : w.heap[b]? = some (.cells c E fr)) (hv : c[o]? = some v) : w.cell? ⟨b, o, none⟩ = some v := by
  simp [World.cell?, h, hv]
theorem Sat.cell {b o : Nat} {c : Array Value} {E : TypeId} {fr : Nat × Nat} {v : Value} (h : Sat S w G) (hh : Has G (pt b (.cells c E fr)) G') (hv : c[o]? = some v) : w.cell? ⟨b, o, none⟩ = some v :=
  cell_of_heap (h.at hh) hv
theorem cell_same {a : Addr} (h : w'.heap[a.block]? = w.heap[a.block]?) : w'.cell? a = w.cell? a := World.cell?_of_block h
theorem block_of_cell {a : Addr} {v : Value} (h : w.cell? a = some v) : a.block < w.heap.size := World.block_lt_of_cell? w a h

/-! loads -/
theorem g_ld {a : Addr} {v : Value} (hx : Env.val e x = some (.pointer (some a))) (hc : w.cell? a = some v) : Gives P N (.ld x none) e w v := by
  intro o c hco hA
  obtain ⟨t, ho, hg⟩ := co_ld hco
  obtain ⟨hg1, _⟩ := agg_run hg w
  simp [execOp, ho, hA.val hx, Instr.loadAt, Instr.sureAddr, loadVar, hg1, hc]
theorem g_ldn {b o n : Nat} {vs : List Value} (hx : Env.val e x = some (.pointer (some ⟨b, o, none⟩))) (hn : vs.length = n) (hc : ∀ j u, vs[j]? = some u → w.cell? ⟨b, o + j, none⟩ = some u) : Gives P N (.ld x (some n)) e w (.agg vs.toArray) := by
  intro o' c hco hA
  obtain ⟨t, ho, hg⟩ := co_ld hco
  obtain ⟨hg1, hg2⟩ := agg_run hg w
  subst hn
  have := run_loadCells_list (P := P) (w := w) ⟨b, o, none⟩ vs (fun j u hj => by rw [addr_add]; exact hc j u hj)
  simp [execOp, ho, hA.val hx, Instr.loadAt, Instr.sureAddr, loadVar, hg1, hg2 _ rfl, this]

/-! stores -/
theorem heap_setCell_eq {b o : Nat} {c : Array Value} {E : TypeId} {fr : Nat × Nat} {v : Value} (h : w.heap[b]? = some (.cells c E fr)) : (w.setCell ⟨b, o, none⟩ v).heap[b]? = some (.cells (c.setIfInBounds o v) E fr) := by
  simp only [World.setCell, Array.getElem?_modify, if_true, h, Option.map_some]
  simp
theorem Sat.setCell {b o : Nat} {c : Array Value} {E : TypeId} {fr : Nat × Nat} (h : Sat S w (pt b (.cells c E fr) :: G)) (v : Value) : Sat S (w.setCell ⟨b, o, none⟩ v) (pt b (.cells (c.setIfInBounds o v) E fr) :: G) :=
  h.write rfl rfl rfl (by simp [World.setCell]) (heap_setCell_eq h.block) (fun i hi hlt => Below.heap_setCell w _ v i hi)
theorem frozen_free {b o : Nat} {c : Array Value} {E : TypeId} (h : w.heap[b]? = some (.cells c E (0, 0))) : w.frozen? ⟨b, o, none⟩ = false := by simp [World.frozen?, h]

theorem d_st {b o : Nat} {c : Array Value} {E : TypeId} {v : Operand} {u : Value} (hx : Env.val e x = some (.pointer (some ⟨b, o, none⟩))) (hv : Env.val e v = some u) (hu : u.oneCell' = true)
    (h : Sat S w (pt b (.cells c E (0, 0)) :: G)) (ho : o < c.size) : Does P N (.st x v 1) e w (fun v' w' => v' = undef ∧ Sat S w' (pt b (.cells (c.setIfInBounds o u) E (0, 0)) :: G)) := by
  intro op a hco hA next Q' hn
  obtain ⟨t, hop, hs⟩ := co_st hco
  have hcell := cell_of_heap (o := o) h.block (Array.getElem?_eq_getElem ho)
  have hcs : u.cells = #[u] := by cases u <;> simp_all [Value.cells, Value.oneCell']
  have hrun : (execOp a.eval op).run P w = .ok .skip (w.setCell ⟨b, o, none⟩ u) := by
    simp [execOp, hop, hA.val hx, hA.val hv, Instr.storeAt, Instr.sureAddr, storeVar, hcs, size_run hs, storeCells, addr_add, run_store P w ⟨b, o, none⟩ u _ hu, hcell, frozen_free h.block]
  rw [hrun]
  exact hn undef _ ⟨rfl, h.setCell u⟩

/-- The cells of an array from o on are those of a list. -/
def setR (c : Array Value) (o : Nat) (vs : List Value) : Array Value := (c.toList.take o ++ vs ++ c.toList.drop (o + vs.length)).toArray

theorem d_stn {b o n : Nat} {c : Array Value} {E : TypeId} {v : Operand} {u : Value} (hx : Env.val e x = some (.pointer (some ⟨b, o, none⟩))) (hv : Env.val e v = some u) (hn : u.cells.size = n) (hu : ∀ q ∈ u.cells.toList, q.oneCell' = true)
    (h : Sat S w (pt b (.cells c E (0, 0)) :: G)) (ho : o + n ≤ c.size) : Does P N (.st x v n) e w (fun v' w' => v' = undef ∧ Sat S w' (pt b (.cells (setR c o u.cells.toList) E (0, 0)) :: G)) := by
  intro op a hco hA next Q' hnx
  obtain ⟨t, hop, hs⟩ := co_st hco
  have hst := run_storeCells_at P b o E u.cells.toList 0 c w h.block (by simp; omega) hu
  simp only [Nat.add_zero] at hst
  have hrun : (execOp a.eval op).run P w = .ok .skip (w.setRow b (setR c o u.cells.toList)) := by
    simp [execOp, hop, hA.val hx, hA.val hv, Instr.storeAt, Instr.sureAddr, storeVar, hn, size_run hs, hst, setR]
  rw [hrun]
  refine hnx undef _ ⟨rfl, h.write rfl rfl rfl (by simp [World.setRow]) (setRow_heap w b c _ E (0, 0) h.block) (fun i hi hlt => ?_)⟩
  simp only [World.setRow, Array.getElem?_modify]
  rw [if_neg (by omega)]

/-! what is made -/
theorem d_box {T : TypeId} {u : Value} (hx : Env.val e x = some u) (h : Sat S w G) : Does P N (.box T x) e w (fun v w' => ∃ b, v = .pointer (some ⟨b, 0, none⟩) ∧ Sat S w' (pt b (.cells u.cells T (0, 0)) :: G)) := by
  intro op a hco hA next Q' hn
  have hop := co_box hco
  have hrun : (execOp a.eval op).run P w = .ok (.value (.pointer (some ⟨w.heap.size, 0, none⟩))) (w.alloc (.cells u.cells T (0, 0))) := by
    simp [execOp, hop, hA.val hx, Instr.box, newVar, newRow]
  rw [hrun]
  exact hn _ _ ⟨_, rfl, h.alloc _⟩
theorem d_new {T : TypeId} {z : Value} (h : Sat S w G) : Does P N (.new T z) e w (fun v w' => ∃ b, v = .pointer (some ⟨b, 0, none⟩) ∧ Sat S w' (pt b (.cells z.cells T (0, 0)) :: G)) := by
  intro op a hco hA next Q' hn
  obtain ⟨i, hop, hi, hz⟩ := co_new hco
  have hrun : (execOp a.eval op).run P w = .ok (.value (.pointer (some ⟨w.heap.size, 0, none⟩))) (w.alloc (.cells z.cells T (0, 0))) := by
    simp [execOp, hop, Instr.alloc, zeroValue, typeInfo, hi, hz, newVar, newRow]
  rw [hrun]
  exact hn _ _ ⟨_, rfl, h.alloc _⟩

/-! calls -/
theorem Ret.wp {f : FuncId} {args : Array Value} {R : Value → World → Prop} {o : Oper} {a : Act} {next : Act → World → Prop} {Q' : Exit → Act → World → Prop} (h : Ret P f args w R) (hn : ∀ v w', R v w' → next (a.put o.dst v) w') :
    o.upon P a next Q' (.ok (.enter f args) w) := by
  rw [Oper.upon_enter]
  refine Calls.mono h ?_
  rintro en w' ⟨v, rfl, hv⟩
  exact hn v w' hv
theorem d_call {f : FuncId} {args : List Operand} {vs : List Value} {R : Value → World → Prop} (ha : Env.vals e args = some vs) (hc : Ret P f vs.toArray w R) : Does P N (.call f args) e w R := by
  intro op a hco hA next Q' hn
  obtain ⟨as, ts, F, c, hop, h1, hF, hb, hnm⟩ := co_call hco
  have hargs : as.map a.eval = vs.toArray := by
    have h2 := hA.vals ha
    rw [← h1] at h2
    apply Array.toList_inj.1
    rw [Array.toList_map]
    exact h2
  have hrun : (execOp a.eval op).run P w = .ok (.enter f vs.toArray) w := by
    have hev : a.eval (.func f) = .func (.func f) #[] #[] := rfl
    simp [execOp, hop, resolve, hargs, hev, Deferred.ofValue, invoke, callFunc, hF, hb]
    exact fun h => by simp [h] at hnm
  rw [hrun]
  exact Ret.wp hc hn
theorem p_call {f : FuncId} {args : List Operand} {vs : List Value} {R : Value → World → Prop} {dst : Option Nat} {g : Option (Nat × Bool)} (hg : wantedE e g = some true) (ha : Env.vals e args = some vs) (hc : Ret P f vs.toArray w R)
    (h : ∀ v w', R v w' → XOps P fn N l k (Env.put e dst v) w' Q) : XOps P fn N (⟨dst, g, .call f args⟩ :: l) k e w Q := p_do hg (d_call ha hc) h

/-! make -/
def zerosA (z : List Value) (n : Nat) : List Value := (List.range n).flatMap (fun _ => z)
theorem zerosA_length (z : List Value) (n : Nat) : (zerosA z n).length = n * z.length := by
  induction n with
  | zero => simp [zerosA]
  | succ n ih => simp only [zerosA, List.range_succ, List.flatMap_append, List.length_append] at ih ⊢; rw [ih]; simp [Nat.add_mul]
theorem zerosA_one (z : Value) (n : Nat) : zerosA [z] n = List.replicate n z := by
  induction n with
  | zero => rfl
  | succ n ih =>
    simp only [zerosA, List.range_succ, List.flatMap_append] at ih ⊢
    rw [ih]
    simp [List.replicate_succ']
theorem mks_zeros (z : List Value) (n : Nat) (hz : z ≠ []) : (Array.range (n * z.length)).map (fun i => z.toArray[i % z.toArray.size]!) = (zerosA z n).toArray := by
  have hp : 0 < z.length := List.length_pos_iff.2 hz
  apply Array.ext
  · simp [zerosA_length]
  · intro i h1 h2
    simp at h1
    have key : ∀ n i, i < n * z.length → (zerosA z n)[i]? = z[i % z.length]? := by
      intro n
      induction n with
      | zero => intro i h; simp at h
      | succ n ih =>
        intro i h
        simp only [zerosA, List.range_succ, List.flatMap_append]
        have hl := zerosA_length z n
        simp only [zerosA] at hl ih
        rw [List.getElem?_append, hl]
        split
        · exact ih i (by assumption)
        · rename_i hge
          have : i - n * z.length = i % z.length := by
            have h3 : i = (i - n * z.length) + z.length * n := by have := Nat.mul_comm z.length n; omega
            conv => rhs; rw [h3, Nat.add_mul_mod_self_left]
            rw [Nat.mod_eq_of_lt]
            rw [Nat.add_mul] at h
            omega
          simp [this]
    have hk := key n i h1
    have hm : i % z.length < z.length := Nat.mod_lt _ hp
    have h3 : i < (zerosA z n).length := by rw [zerosA_length]; exact h1
    rw [List.getElem?_eq_getElem h3, List.getElem?_eq_getElem hm] at hk
    injection hk with hk
    simp [hk, hm]

theorem d_mks {E : TypeId} {sz by' : Nat} {z : List Value} {lo co' : Operand} {ln cp : Int} {k1 k2 : IntKind} (hl : Env.val e lo = some (.int k1 ln)) (hc : Env.val e co' = some (.int k2 cp)) (h0 : 0 ≤ ln) (h1 : ln ≤ cp) (hb : cp * by' ≤ 281474976710656) (hc63 : cp ≤ 9223372036854775807) (hz : z ≠ [])
    (hsz : sz = z.length) (h : Sat S w G) : Does P N (.mks E sz by' z lo co') e w (fun v w' => ∃ b, v = .slice (some ⟨b, 0, none⟩) ln.toNat cp.toNat ∧ Sat S w' (pt b (.cells (zerosA z cp.toNat).toArray E (0, 0)) :: G)) := by
  intro op a hco hA next Q' hn
  obtain ⟨t, hop, he, hs, hby, hzz⟩ := co_mks hco
  obtain ⟨i, hi, hi2, hzi⟩ : ∃ i, P.info? E = some i ∧ i.bytes = by' ∧ ∃ zv, i.zero = some zv ∧ zv.cells.toList = z := by
    unfold bytesAt at hby
    unfold zeroAt at hzz
    cases hi : P.info? E with
    | none => simp [hi] at hby
    | some i =>
      rw [hi] at hby hzz
      simp at hby hzz
      split at hzz
      · rename_i zv hzv; simp at hzz; exact ⟨i, rfl, hby, zv, hzv, hzz⟩
      · simp at hzz
  obtain ⟨zv, hzv, hzc⟩ := hzi
  have hw1 : IntKind.i64.wrap ln = ln := wrap_i64_in (by omega) (by omega)
  have hw2 : IntKind.i64.wrap cp = cp := wrap_i64_in (by omega) (by omega)
  have hzs : zv.cells = z.toArray := by rw [← hzc]
  have hrun : (execOp a.eval op).run P w = .ok (.value (.slice (some ⟨w.heap.size, 0, none⟩) ln.toNat cp.toNat)) (w.alloc (.cells (zerosA z cp.toNat).toArray E (0, 0))) := by
    have hbb : ¬ ((i.bytes : Int) * cp > 281474976710656) := by rw [hi2, Int.mul_comm]; omega
    have hn1 : ¬ cp < 0 := by omega
    have hn2 : ¬ ln < 0 := by omega
    have hn3 : ¬ ln > cp := by omega
    simp only [execOp, hop, hA.val hl, hA.val hc, Instr.makeSlice, asInt, asIntOf]
    simp only [Sem.run_bind, run_underlying (elem_und he), Sem.run_pure, Result.andThen, typeInfo, run_program, hi]
    simp only [Sem.run_ite, hw1, hw2]
    simp [hbb, hn1, hn2, hn3, size_run hs, zeroValue, typeInfo, hi, hzv, hzs, newRow]
    have hmk := mks_zeros z cp.toNat hz
    have hzl : 0 < z.length := List.length_pos_iff.2 hz
    simp at hmk
    rw [← hsz] at hmk
    rcases Nat.eq_zero_or_pos cp.toNat with hcz | hcz
    · have hr0 : Array.range 0 = #[] := by apply Array.ext <;> simp
      simp [hcz, zerosA, hr0]
    · have : ¬ cp.toNat * sz = 0 := by
        intro h'
        rcases Nat.mul_eq_zero.1 h' with h' | h' <;> omega
      rw [if_neg this, hsz] at *
      rw [← hmk, hsz]
  rw [hrun]
  exact hn _ _ ⟨_, rfl, h.alloc _⟩

/-! reslicing -/
def slB (e : Env) : Option Operand → Option (Option Int)
  | none => some none
  | some x => match Env.val e x with
    | some (.int _ n) => some (some n)
    | _ => none
theorem slB_run {lo : Option Operand} {v : Option Int} {a : Act} (h : slB e lo = some v) (hA : Agree N e a) : (v = none ∧ lo.map a.eval = none) ∨ ∃ n kd, v = some n ∧ lo.map a.eval = some (.int kd n) := by
  cases lo with
  | none => simp [slB] at h; exact .inl ⟨h.symm, rfl⟩
  | some x =>
    simp only [slB] at h
    split at h
    · rename_i kd n hx; simp at h; exact .inr ⟨n, kd, h.symm, by simp [hA.val hx]⟩
    · simp at h
/-- x[lo:hi] of a slice -/
theorem g_slc {s : Nat} {lo hi : Option Operand} {a : Option Addr} {len cap : Nat} {ol oh : Option Int} {l' h' : Nat} (hx : Env.val e x = some (.slice a len cap)) (hlo : slB e lo = some ol) (hhi : slB e hi = some oh)
    (hl : ((l' : Nat) : Int) = ol.getD 0) (hh : ((h' : Nat) : Int) = oh.getD len) (h1 : l' ≤ h') (h2 : h' ≤ cap) :
    Gives P N (.slc s x lo hi) e w (.slice (if cap = l' then a else a.map (·.add (l' * s))) (h' - l') (cap - l')) := by
  intro op ac hco hA
  obtain ⟨t, E, hop, he, hs⟩ := co_slc hco
  have h5 := slB_run hlo hA
  have h6 := slB_run hhi hA
  have hh2 : (Instr.sliceBounds true len cap (lo.map ac.eval) (hi.map ac.eval) none).run P w = .ok (l', h', cap) w := by
    rcases h5 with ⟨rfl, h5⟩ | ⟨n, kd, rfl, h5⟩ <;> rcases h6 with ⟨rfl, h6⟩ | ⟨m, kd', rfl, h6⟩ <;> simp at hl hh <;> rw [h5, h6]
    · obtain rfl : l' = 0 := by omega
      obtain rfl : h' = len := by omega
      simp [Instr.sliceBounds]
    · obtain rfl : l' = 0 := by omega
      have q1 : 0 ≤ m ∧ m ≤ cap := by omega
      have q2 : m.toNat = h' := by omega
      simp [Instr.sliceBounds, Instr.sliceBound, asIntOf, q1, q2]
    · obtain rfl : h' = len := by omega
      have q1 : 0 ≤ n ∧ n ≤ h' := by omega
      have q2 : n.toNat = l' := by omega
      simp [Instr.sliceBounds, Instr.sliceBound, asIntOf, q1, q2]
    · have q1 : 0 ≤ m ∧ m ≤ cap := by omega
      have q2 : m.toNat = h' := by omega
      have q3 : 0 ≤ n ∧ n ≤ h' := by omega
      have q4 : n.toNat = l' := by omega
      simp [Instr.sliceBounds, Instr.sliceBound, asIntOf, q1, q2, q3, q4]
  simp [execOp, hop, hA.val hx, Instr.sliceAt, Instr.slice, run_underlying (elem_und he), hh2, size_run hs]
/-- s[lo:hi] of a string -/
theorem g_sls {lo hi : Option Operand} {s : ByteArray} {ol oh : Option Int} {l' h' : Nat} (hx : Env.val e x = some (.string s)) (hlo : slB e lo = some ol) (hhi : slB e hi = some oh)
    (hl : ((l' : Nat) : Int) = ol.getD 0) (hh : ((h' : Nat) : Int) = oh.getD s.size) (h1 : l' ≤ h') (h2 : h' ≤ s.size) :
    Gives P N (.sls x lo hi) e w (.string (s.extract l' h')) := by
  intro op ac hco hA
  obtain ⟨t, hop, he⟩ := co_sls hco
  have h5 := slB_run hlo hA
  have h6 := slB_run hhi hA
  have hh2 : (Instr.sliceBounds false s.size s.size (lo.map ac.eval) (hi.map ac.eval) none).run P w = .ok (l', h', s.size) w := by
    rcases h5 with ⟨rfl, h5⟩ | ⟨n, kd, rfl, h5⟩ <;> rcases h6 with ⟨rfl, h6⟩ | ⟨m, kd', rfl, h6⟩ <;> simp at hl hh <;> rw [h5, h6]
    · obtain rfl : l' = 0 := by omega
      obtain rfl : h' = s.size := by omega
      simp [Instr.sliceBounds]
    · obtain rfl : l' = 0 := by omega
      have q1 : 0 ≤ m ∧ m ≤ s.size := by omega
      have q2 : m.toNat = h' := by omega
      simp [Instr.sliceBounds, Instr.sliceBound, asIntOf, q1, q2]
    · obtain rfl : h' = s.size := by omega
      have q1 : 0 ≤ n ∧ n ≤ s.size := by omega
      have q2 : n.toNat = l' := by omega
      simp [Instr.sliceBounds, Instr.sliceBound, asIntOf, q1, q2]
    · have q1 : 0 ≤ m ∧ m ≤ s.size := by omega
      have q2 : m.toNat = h' := by omega
      have q3 : 0 ≤ n ∧ n ≤ h' := by omega
      have q4 : n.toNat = l' := by omega
      simp [Instr.sliceBounds, Instr.sliceBound, asIntOf, q1, q2, q3, q4]
  simp [execOp, hop, hA.val hx, Instr.sliceAt, Instr.slice, run_underlying (str_und he), hh2]

/-! append -/
theorem ownS_row {E : TypeId} {n : Nat} {v : Value} {cs : List Value} (h : Sat S w (ownS E n v cs :: G)) : ∃ len, w.ownsRow S.base E n v len cs := by
  obtain ⟨H, ⟨H1, H2, a, _, d, rfl⟩, ho⟩ := h.own
  rcases a with ⟨rfl, rfl, _⟩ | ⟨b, len, cap, spare, rfl, hl, h1, h2, h3, hp⟩
  · exact ⟨0, World.ownsRow_nil _ _ _ _⟩
  · unfold pt at hp
    subst hp
    obtain ⟨hb, hge⟩ := ho b (.cells (cs ++ spare).toArray E (0, 0)) (by simp [Hun])
    refine ⟨len, hl, .inr ⟨b, cap, _, rfl, hge, hb, h1, h2, ?_, ?_⟩⟩
    · simp [hl, h3, ← Nat.add_mul]; congr 1; omega
    · simp [← hl]
theorem row_ownS {base E n len : Nat} {v : Value} {cs : List Value} (h : w.ownsRow base E n v len cs) :
    (v = .slice none 0 0 ∧ cs = []) ∨ ∃ b cap spare, v = .slice (some ⟨b, 0, none⟩) len cap ∧ cs.length = len * n ∧ len ≤ cap ∧ cap ≤ maxLen ∧ spare.length = (cap - len) * n ∧ base ≤ b ∧ w.heap[b]? = some (.cells (cs ++ spare).toArray E (0, 0)) := by
  obtain ⟨hl, h⟩ := h
  rcases h with ⟨rfl, rfl⟩ | ⟨b, cap, cur, rfl, hb, hg, h1, h2, h3, h4⟩
  · exact .inl ⟨rfl, List.eq_nil_of_length_eq_zero (by omega)⟩
  · refine .inr ⟨b, cap, cur.toList.drop (len * n), rfl, hl, h1, h2, ?_, hb, ?_⟩
    · simp [h3, Nat.sub_mul]
    · rw [← h4, List.take_append_drop]; simpa using hg

theorem Sat.grown {E : TypeId} {n len : Nat} {v v' : Value} {cs cs' : List Value} (h : Sat S w (ownS E n v cs :: G)) (hr : w'.ownsRow S.base E n v' len cs') (hg : w.grownBy w' v.ownBlock) (hat : v'.ownBlock = v.ownBlock ∨ ∃ b, v'.ownBlock = some b ∧ w.heap.size ≤ b) :
    Sat S w' (ownS E n v' cs' :: G) := by
  have hrow := ownS_row h
  obtain ⟨len0, hrow⟩ := hrow
  obtain ⟨H, ⟨H1, H2, a, g, d, rfl⟩, ho⟩ := h.own
  have hlt : ∀ i, i < S.base → i < w.heap.size := fun i hi => Nat.lt_of_lt_of_le hi (Nat.le_trans h.le h.below.size)
  have hvb : ∀ b, v.ownBlock = some b → S.base ≤ b := fun b hb => (hrow.lt b hb).1
  have hbelow : Below S.base S.w0 w' := h.below.trans ⟨hg.os, hg.tape, hg.output, hg.size, fun i hi => hg.block i (hlt i hi) (fun he => by have := hvb i he.symm; omega)⟩
  -- the block of the slice is none of the rest's
  have hout : ∀ i o, H2 i = some o → v.ownBlock ≠ some i := by
    intro i o hi he
    rcases a with ⟨rfl, rfl, _⟩ | ⟨b, len, cap, spare, rfl, hl, h1, h2, h3, hp⟩
    · simp [Value.ownBlock] at he
    · simp [Value.ownBlock] at he
      subst he
      unfold pt at hp
      subst hp
      rcases d b with h' | h'
      · simp at h'
      · rw [h'] at hi; cases hi
  have hrest : ∀ i o, H2 i = some o → w'.heap[i]? = some o ∧ S.base ≤ i ∧ i < w.heap.size := by
    intro i o hi
    have h1 : Hun H1 H2 i = some o := by
      unfold Hun
      rcases d i with h' | h'
      · rw [h']; exact hi
      · rw [h'] at hi; cases hi
    obtain ⟨h2, h3⟩ := ho i o h1
    have h4 := (Array.getElem?_eq_some_iff.1 h2).1
    exact ⟨by rw [hg.block i h4 (fun he => hout i o hi he.symm)]; exact h2, h3, h4⟩
  rcases row_ownS hr with ⟨rfl, rfl⟩ | ⟨b, cap, spare, rfl, hl, h1, h2, h3, hb, hh⟩
  · refine ⟨hbelow, h.le, Hun (fun _ => none) H2, ⟨_, H2, .inl ⟨rfl, rfl, rfl⟩, g, fun i => .inl rfl, rfl⟩, fun i o hi => ?_⟩
    simp [Hun] at hi
    exact ⟨(hrest i o hi).1, (hrest i o hi).2.1⟩
  · refine ⟨hbelow, h.le, Hun (fun i => if i = b then some (.cells (cs' ++ spare).toArray E (0, 0)) else none) H2, ⟨_, H2, .inr ⟨b, len, cap, spare, rfl, hl, h1, h2, h3, rfl⟩, g, fun i => ?_, rfl⟩, fun i o hi => ?_⟩
    · by_cases hib : i = b
      · subst hib
        refine .inr ?_
        cases hi : H2 i with
        | none => rfl
        | some o =>
          exfalso
          rcases hat with hat | ⟨b', hb', hle⟩
          · exact hout i o hi (by rw [← hat]; simp [Value.ownBlock])
          · simp [Value.ownBlock] at hb'
            subst hb'
            have := (hrest i o hi).2.2
            omega
      · exact .inl (by simp [hib])
    · unfold Hun at hi
      by_cases hib : i = b
      · subst hib
        simp at hi
        subst hi
        exact ⟨hh, hb⟩
      · simp [hib] at hi
        exact ⟨(hrest i o hi).1, (hrest i o hi).2.1⟩

/-- append of news to a slice that owns its block; what is appended lies anywhere, and is read. -/
theorem d_app {E : TypeId} {n by' : Nat} {z : List Value} {s : Operand} {v : Value} {cs news : List Value} {ax : Option Addr} {m cx : Nat} (hs : Env.val e s = some v) (hx : Env.val e x = some (.slice ax m cx)) (hz : z.length = n) (hn0 : 0 < n)
    (h : Sat S w (ownS E n v cs :: G)) (hl : news.length = m * n) (hnews : 0 < m → ∃ b o, ax = some ⟨b, o, none⟩ ∧ ∀ j u, news[j]? = some u → w.cell? ⟨b, o + j, none⟩ = some u) (h1 : ∀ u ∈ news, u.oneCell' = true)
    (hsz : (cs.length + news.length) * by' ≤ 140737488355328 * n) (h63 : cs.length + news.length ≤ 9223372036854775807) :
    Does P N (.app E n by' z s x) e w (fun v' w' => Sat S w' (ownS E n v' (cs ++ news) :: G)) := by
  intro op a hco hA next Q' hnx
  obtain ⟨as, ts, t, hop, ha1, ha2, he, hsz', hby, hzz⟩ := co_app hco
  obtain ⟨i, hi, hi2, zv, hzi, hzc⟩ : ∃ i, P.info? E = some i ∧ i.bytes = by' ∧ ∃ zv, i.zero = some zv ∧ zv.cells.toList = z := by
    unfold bytesAt at hby
    unfold zeroAt at hzz
    cases hi : P.info? E with
    | none => simp [hi] at hby
    | some i =>
      rw [hi] at hby hzz
      simp at hby hzz
      split at hzz
      · rename_i zv hzv; simp at hzz; exact ⟨i, rfl, hby, zv, hzv, hzz⟩
      · simp at hzz
  have hisz : i.size = n := by
    unfold sizeAt at hsz'
    rw [hi] at hsz'; simpa using hsz'
  obtain rfl : as = #[s, x] := by cases as; simp_all
  obtain rfl : ts = #[t, t] := by cases ts; simp_all
  have het := elem_und he
  subst hisz
  have hzs : zv.cells.size = i.size := by rw [← hz, ← hzc]; simp
  obtain ⟨len, hrow⟩ := ownS_row h
  have hcl : cs.length = len * i.size := hrow.1
  have hb2 : (len + m) * by' ≤ 140737488355328 := by
    rw [hcl, hl, ← Nat.add_mul, Nat.mul_right_comm] at hsz
    exact Nat.le_of_mul_le_mul_right hsz hn0
  have hlm : len + m ≤ maxLen := by
    unfold maxLen
    rw [hcl, hl, ← Nat.add_mul] at h63
    have : len + m ≤ (len + m) * i.size := Nat.le_mul_of_pos_right _ hn0
    omega
  have hsmall : len + m ≤ 9223372036854775807 := by simp only [maxLen] at hlm; omega
  -- what the call comes to
  have fin : ∀ {v' : Value} {w' : World}, (Builtin.append_ #[t, t] op.type #[v, .slice ax m cx]).run P w = .ok v' w' → (execOp a.eval op).run P w = .ok (.value v') w' := by
    intro v' w' hr
    simp [execOp, hop, resolve, invoke, builtin, hA.val hs, hA.val hx, hr]
  cases hax : ax with
  | none =>
    have hm0 : m = 0 := by
      rcases Nat.eq_zero_or_pos m with h0 | h0
      · exact h0
      · obtain ⟨b, o, hb, _⟩ := hnews h0; rw [hax] at hb; cases hb
    subst hm0
    have hnil : news = [] := List.eq_nil_of_length_eq_zero (by simpa using hl)
    subst hnil
    subst hax
    rcases row_ownS hrow with ⟨rfl, rfl⟩ | ⟨b, cap, spare, rfl, hl', h1', h2', h3', hb', hh'⟩
    · rw [fin (v' := .slice none 0 0) (w' := w) (by simp [Builtin.append_, run_underlying het, sizeOf, typeInfo, hi, Builtin.lenOf, Builtin.firstCells])]
      exact hnx _ _ (by simpa using h)
    · rw [fin (v' := .slice (some ⟨b, 0, none⟩) len cap) (w' := w) (by simp [Builtin.append_, run_underlying het, sizeOf, typeInfo, hi, Builtin.lenOf, Builtin.firstCells, h1', storeCells])]
      exact hnx _ _ (by simpa using h)
  | some ad =>
    subst hax
    have hnews' : ∀ j u, news[j]? = some u → w.cell? (ad.add j) = some u := by
      rcases Nat.eq_zero_or_pos m with h0 | h0
      · subst h0
        have hnil : news = [] := List.eq_nil_of_length_eq_zero (by simpa using hl)
        subst hnil
        intro j u hj; simp at hj
      · obtain ⟨b, o, hb, hr⟩ := hnews h0
        simp at hb
        subst hb
        intro j u hj
        rw [addr_add]; exact hr j u hj
    -- a new block
    have grow : ∀ (old : Nat), old < len + m → ∀ (G1 : List HProp), Sat S w G1 →
        Sat S (w.drew.alloc (.cells (cs.toArray ++ news.toArray ++ Builtin.zeroCells zv.cells (grownCap w (len + m) old E - (len + m))) E)) (ownS E i.size (.slice (some ⟨w.heap.size, 0, none⟩) (len + m) (grownCap w (len + m) old E)) (cs ++ news) :: G1) := by
      intro old ho G1 hG1
      have hge := grownCap_ge w (len + m) old E
      have hcm : grownCap w (len + m) old E ≤ maxLen := grownCap_le_maxLen w (len + m) old E hlm
      refine (hG1.drew.alloc _).mono (fun H hH => .inr ⟨w.heap.size, len + m, grownCap w (len + m) old E, (Builtin.zeroCells zv.cells (grownCap w (len + m) old E - (len + m))).toList, rfl, by rw [List.length_append, hcl, hl, Nat.add_mul], hge, hcm, by rw [Array.length_toList, size_zeroCells, hzs], ?_⟩)
      have hc : cs.toArray ++ news.toArray ++ Builtin.zeroCells zv.cells (grownCap w (len + m) old E - (len + m)) = (cs ++ news ++ (Builtin.zeroCells zv.cells (grownCap w (len + m) old E - (len + m))).toList).toArray := by
        apply Array.toList_inj.1; simp
      rw [← hc]
      exact hH
    have hown := ownS_row h
    rcases row_ownS hrow with ⟨rfl, rfl⟩ | ⟨b, cap, spare, rfl, hl', h1', h2', h3', hb', hh'⟩
    · have hlen0 : len = 0 := by
        have h0 : len * i.size = 0 := by rw [← hcl]; rfl
        rcases Nat.mul_eq_zero.1 h0 with h' | h' <;> omega
      subst hlen0
      rcases Nat.eq_zero_or_pos m with h0 | h0
      · subst h0
        have hnil : news = [] := List.eq_nil_of_length_eq_zero (by simpa using hl)
        subst hnil
        rw [fin (v' := .slice none 0 0) (w' := w) (by simp [Builtin.append_, run_underlying het, sizeOf, typeInfo, hi, Builtin.lenOf, Builtin.firstCells, loadCells, loadCellsFrom])]
        exact hnx _ _ (by simpa using h)
      · have hr := run_append_nil (P := P) w t op.type E i zv het hi hzi ad m cx news hl hnews' h0 (by omega) (by rw [hi2]; simp only [Nat.zero_add] at hb2; omega)
        rw [fin hr]
        have := grow 0 (by omega) G h.drop
        simp only [Nat.zero_add, List.nil_append, Array.empty_append] at this
        exact hnx _ _ (by simpa using this)
    · by_cases hroom : len + m ≤ cap
      · have hcs : (cs ++ spare).toArray.size = cap * i.size := by
          simp only [List.size_toArray, List.length_append, hl', h3', ← Nat.add_mul]
          congr 1; omega
        have hfit : len * i.size + news.length ≤ (cs ++ spare).toArray.size := by rw [hl, hcs, ← Nat.add_mul]; exact Nat.mul_le_mul_right _ hroom
        have hr := run_append_room (P := P) w t op.type E i het hi b len cap _ hh' ad m cx news hl hnews' h1 hroom hfit
        rw [fin hr]
        refine hnx _ _ ?_
        -- the block, written
        have hopen : Sat S w (pt b (.cells (cs ++ spare).toArray E (0, 0)) :: G) := by
          obtain ⟨H, ⟨H1, H2, aa, g, d, rfl⟩, ho⟩ := h.own
          refine ⟨h.below, h.le, _, ⟨H1, H2, ?_, g, d, rfl⟩, ho⟩
          rcases aa with ⟨h', _⟩ | ⟨b', len', cap', spare', he', hl2, _, _, _, hp⟩
          · cases h'
          · simp at he'
            obtain ⟨rfl, rfl, rfl⟩ := he'
            have hp' := hp
            unfold pt at hp ⊢
            have h9 := (ho b (.cells (cs ++ spare').toArray E (0, 0)) (by simp [Hun, hp])).1
            rw [hh'] at h9
            simp at h9
            rw [hp, h9]
        have hsame : ∀ q, q ≠ b → q < w.heap.size → (w.setRow b ((cs ++ spare).toArray.toList.take (len * i.size) ++ news ++ (cs ++ spare).toArray.toList.drop (len * i.size + news.length)).toArray).heap[q]? = w.heap[q]? := by
          intro k hk hlt
          simp only [World.setRow, Array.getElem?_modify]
          rw [if_neg (by omega)]
        refine (hopen.write (w' := w.setRow b _) rfl rfl rfl (by simp [World.setRow]) (setRow_heap w b _ _ E (0, 0) hh') hsame).mono (fun H hH => .inr ⟨b, len + m, cap, spare.drop news.length, rfl, by rw [List.length_append, hcl, hl, Nat.add_mul], hroom, h2', ?_, ?_⟩)
        · rw [List.length_drop, h3', hl, ← Nat.sub_mul]; congr 1; omega
        · have he : (cs ++ spare).toArray.toList.take (len * i.size) ++ news ++ (cs ++ spare).toArray.toList.drop (len * i.size + news.length) = cs ++ news ++ spare.drop news.length := by
            simp only [← hl', List.take_left']
            rw [List.drop_append]
            simp
          rw [he] at hH
          exact hH
      · have holds : ∀ j u, cs[j]? = some u → w.cell? ((⟨b, 0, none⟩ : Addr).add j) = some u := by
          intro j u hj
          rw [addr_add, Nat.zero_add]
          refine cell_of_heap hh' ?_
          simp [List.getElem?_append_left (List.getElem?_eq_some_iff.1 hj).1, hj]
        have hr := run_append_grow (P := P) w t op.type E i zv het hi hzi ⟨b, 0, none⟩ len cap cs hcl holds ad m cx news hl hnews' (by omega) (by omega) (growslice_fits (by omega) (by rw [hi2]; exact hb2))
        rw [fin hr]
        exact hnx _ _ (grow cap (by omega) G h.drop)
end
end Go.HX
namespace Go.HX
open Go

abbrev Rec := List (Nat × (World → Prop))

section abstract
variable {P : Program} {ops : Array Oper} {Q : Exit → Act → World → Prop} {isW : Nat → Bool} {bef : Nat → Nat → Bool}

def live (isW : Nat → Bool) (bef : Nat → Nat → Bool) (listed : Array Bool) (i : Nat) : Prop := ∀ k, listed.getD k false = true → isW k = true → bef i k = false
def Now (isW : Nat → Bool) (bef : Nat → Nat → Bool) (R : Rec) (listed : Array Bool) (w : World) : Prop := ∀ p ∈ R, live isW bef listed p.1 → p.2 w

def wpAnyR (P : Program) (ops : Array Oper) (Q : Exit → Act → World → Prop) (isW : Nat → Bool) (bef : Nat → Nat → Bool) (R : Rec) : Nat → Array Bool → Act → World → Prop
  | 0, listed, a, w => Region.ready .any ops listed = [] ∧ Q .normal a w
  | fuel + 1, listed, a, w =>
    (Region.ready .any ops listed = [] → Q .normal a w) ∧
    ∀ i ∈ Region.ready .any ops listed, wpOp P ops Q i (fun a' w' => Now isW bef R (listed.setIfInBounds i true) w' ∧ wpAnyR P ops Q isW bef R fuel (listed.setIfInBounds i true) a' w') a w

theorem wpAny_of_R {R : Rec} : ∀ (fuel : Nat) (listed : Array Bool) (a : Act) (w : World), wpAnyR P ops Q isW bef R fuel listed a w → wpAny P .any ops Q fuel listed a w
  | 0, _, _, _, h => h
  | fuel + 1, _, _, _, h => ⟨h.1, fun i hi => wpOp_mono (fun a' w' h' => wpAny_of_R fuel _ a' w' h'.2) (h.2 i hi)⟩

theorem wpAnyR_weaken {R : Rec} {p : Nat × (World → Prop)} : ∀ (fuel : Nat) (listed : Array Bool) (a : Act) (w : World), wpAnyR P ops Q isW bef (p :: R) fuel listed a w → wpAnyR P ops Q isW bef R fuel listed a w
  | 0, _, _, _, h => h
  | fuel + 1, _, _, _, h => ⟨h.1, fun i hi => wpOp_mono (fun a' w' h' => ⟨fun q hq => h'.1 q (List.mem_cons_of_mem _ hq), wpAnyR_weaken fuel _ a' w' h'.2⟩) (h.2 i hi)⟩

/-- All that a listed operation waits for is listed. -/
def Down (bef : Nat → Nat → Bool) (listed : Array Bool) : Prop := ∀ i k, bef i k = true → listed.getD k false = true → listed.getD i false = true

theorem getD_iff {listed : Array Bool} {j i : Nat} (hi : i < listed.size) : (listed.setIfInBounds i true).getD j false = true ↔ j = i ∨ listed.getD j false = true := by
  by_cases h : i = j
  · subst h; simp [hi]
  · have h' : ¬ j = i := fun e => h e.symm
    simp [Array.getElem?_setIfInBounds_ne h, h']

theorem ready_lt {i : Nat} {listed : Array Bool} (h : i ∈ Region.ready .any ops listed) : i < listed.size ∧ listed.getD i false = false ∧ i < ops.size := by
  obtain ⟨h0, o, ho, _⟩ := mem_ready.1 h
  rcases Nat.lt_or_ge i listed.size with h' | h'
  · exact ⟨h', by simpa [h'] using h0, (Array.getElem?_eq_some_iff.1 ho).1⟩
  · simp [Array.getElem?_eq_none h'] at h0

/-- Generated by the edges. -/
structure Gen (ops : Array Oper) (bef : Nat → Nat → Bool) : Prop where
  gen : ∀ i j, bef i j = true → ∃ o, ops[j]? = some o ∧ ∃ e ∈ o.after, Region.binds .any e = true ∧ (e.on = i ∨ bef i e.on = true)
  lt : ∀ i j, bef i j = true → i < j
  sep : ∀ i j oi oj, ops[i]? = some oi → ops[j]? = some oj → i ≠ j → (∀ e ∈ oj.after, Region.binds .any e = true → e.on ≠ i) → bef j i = false → oi.apart ops oj = true
  nosel : ∀ (j : Nat) (o : Oper) cs b, ops[j]? = some o → o.op ≠ .select cs b

theorem Down.ready {listed : Array Bool} (hD : Down bef listed) (hG : Gen ops bef) {i j : Nat} (hj : j ∈ Region.ready .any ops listed) (hb : bef i j = true) : listed.getD i false = true := by
  obtain ⟨h0, o, ho, hall⟩ := mem_ready.1 hj
  obtain ⟨o', ho', e, he, hbd, h⟩ := hG.gen i j hb
  rw [ho] at ho'
  injection ho' with ho'
  subst ho'
  have h1 := hall e he hbd
  rcases h with h | h
  · rw [← h]; exact h1
  · exact hD i e.on h h1

theorem Down.add {listed : Array Bool} (hD : Down bef listed) (hG : Gen ops bef) {j : Nat} (hj : j ∈ Region.ready .any ops listed) : Down bef (listed.setIfInBounds j true) := by
  intro i k hb hk
  have hlt := (ready_lt hj).1
  rw [getD_iff hlt] at hk ⊢
  rcases hk with rfl | hk
  · exact .inr (hD.ready hG hj hb)
  · exact .inr (hD i k hb hk)

theorem wpAnyR_first {i : Nat} {oi : Oper} {v : Value} {c : World → Prop} {R : Rec} (hG : Gen ops bef) (hi : ops[i]? = some oi) (hnw : isW i = false)
    (hQ : ∀ c a w, Q (.panic c) (a.put oi.dst v) w → Q (.panic c) a w) :
    ∀ (fuel : Nat) (listed : Array Bool) (a : Act) (w : World), Down bef listed → i ∈ Region.ready .any ops listed → YieldsIf P ops c oi v a → c w → Now isW bef R listed w →
      wpAnyR P ops Q isW bef ((i, c) :: R) fuel (listed.setIfInBounds i true) (a.put oi.dst v) w → wpAnyR P ops Q isW bef R (fuel + 1) listed a w := by
  have live_i : ∀ {listed : Array Bool} {r : Nat}, i < listed.size → live isW bef listed r → live isW bef (listed.setIfInBounds i true) r := by
    intro listed r hlt hl k hk hw
    rw [getD_iff hlt] at hk
    rcases hk with rfl | hk
    · rw [hnw] at hw; cases hw
    · exact hl k hk hw
  intro fuel
  induction fuel with
  | zero =>
    intro listed a w hD hr hy hc hN H
    refine ⟨fun h => (by rw [h] at hr; cases hr), fun j hj => ?_⟩
    by_cases hji : j = i
    · subst hji
      refine hy.wpOp hi hc ⟨fun p hp hl => hN p hp (fun k hk hw => hl k ((getD_iff (ready_lt hj).1).2 (.inr hk)) hw), H⟩
    · have := ready_mono hj hji
      rw [H.1] at this
      cases this
  | succ fuel ih =>
    intro listed a w hD hr hy hc hN H
    have hilt := (ready_lt hr).1
    refine ⟨fun h => (by rw [h] at hr; cases hr), fun j hj => ?_⟩
    by_cases hji : j = i
    · subst hji
      exact hy.wpOp hi hc ⟨fun p hp hl => hN p hp (fun k hk hw => hl k ((getD_iff (ready_lt hj).1).2 (.inr hk)) hw), wpAnyR_weaken _ _ _ _ H⟩
    · have h1 := H.2 j (ready_mono hj hji)
      obtain ⟨hjun, oj, hoj, hall⟩ := mem_ready.1 hj
      have hjlt := (ready_lt hj).1
      have hiun : listed.getD i false = false := (ready_lt hr).2.1
      have hjun' : listed.getD j false = false := (ready_lt hj).2.1
      have hbij : bef i j = false := by
        cases hb : bef i j with
        | false => rfl
        | true => have := hD.ready hG hj hb; rw [hiun] at this; cases this
      have hbji : bef j i = false := by
        cases hb : bef j i with
        | false => rfl
        | true => have := hD.ready hG hr hb; rw [hjun'] at this; cases this
      have hnot : ∀ e ∈ oj.after, Region.binds .any e = true → e.on ≠ i := fun e he hb heq => by
        have h1 := hall e he hb
        rw [heq, hiun] at h1
        cases h1
      have hap := hG.sep i j oi oj hi hoj (Ne.symm hji) hnot hbji
      have h2 := wpOp_putIf hoj hap (fun cs b => hG.nosel i oi cs b hi) (fun cs b => hG.nosel j oj cs b hoj) hQ hy h1
      refine wpOp_mono (fun a' w' h3 => ?_) h2
      obtain ⟨hy', hN', hK⟩ := h3
      have hilt' : i < (listed.setIfInBounds j true).size := by simpa using hilt
      have hjlt' : j < (listed.setIfInBounds i true).size := by simpa using hjlt
      have hc' : c w' := hN' (i, c) (List.mem_cons_self ..) (fun k hk hw => by
        rw [getD_iff hjlt', getD_iff hilt] at hk
        rcases hk with rfl | rfl | hk
        · exact hbij
        · cases hb : bef k k with
          | false => rfl
          | true => exact absurd (hG.lt k k hb) (by omega)
        · cases hb : bef i k with
          | false => rfl
          | true => have := hD i k hb hk; rw [hiun] at this; cases this)
      have hNj : Now isW bef R (listed.setIfInBounds j true) w' := fun p hp hl => hN' p (List.mem_cons_of_mem _ hp) (by
        rw [Array.setIfInBounds_comm _ _ (Ne.symm hji)]
        exact live_i hilt' hl)
      refine ⟨hNj, ih (listed.setIfInBounds j true) a' w' (hD.add hG hj) (ready_mono hr (Ne.symm hji)) hy' hc' hNj ?_⟩
      rw [Array.setIfInBounds_comm _ _ hji]
      exact hK
end abstract

/-! ### the bits of what waits for what -/
theorem bitsOf_foldl (acc : List Nat) (i : Nat) : ∀ (e : List Nat) (s : Nat), (e.foldl (fun s k => s ||| 2 ^ k ||| acc.getD k 0) s).testBit i = true → s.testBit i = true ∨ ∃ k ∈ e, k = i ∨ (acc.getD k 0).testBit i = true
  | [], s, h => .inl h
  | k :: e, s, h => by
    simp only [List.foldl_cons] at h
    rcases bitsOf_foldl acc i e _ h with h | ⟨k', hk', h⟩
    · rw [Nat.testBit_or, Nat.testBit_or, Bool.or_eq_true, Bool.or_eq_true] at h
      rcases h with (h | h) | h
      · exact .inl h
      · refine .inr ⟨k, List.mem_cons_self .., .inl ?_⟩
        rw [Nat.testBit_two_pow] at h
        exact of_decide_eq_true h
      · exact .inr ⟨k, List.mem_cons_self .., .inr h⟩
    · exact .inr ⟨k', List.mem_cons_of_mem _ hk', h⟩
theorem bitsOf_bit {acc e : List Nat} {i : Nat} (h : (bitsOf acc e).testBit i = true) : ∃ k ∈ e, k = i ∨ (acc.getD k 0).testBit i = true := by
  rcases bitsOf_foldl acc i e 0 h with h | h
  · simp at h
  · exact h
theorem befAcc_pre : ∀ (es : List (List Nat)) (acc : List Nat) (j : Nat), j < acc.length → (befAcc acc es)[j]? = acc[j]?
  | [], acc, j, h => rfl
  | e :: es, acc, j, h => by
    rw [befAcc, befAcc_pre es _ j (by simp; omega), List.getElem?_append_left h]
theorem befAcc_at : ∀ (es : List (List Nat)) (acc : List Nat) (j : Nat) (b : Nat), acc.length ≤ j → (befAcc acc es)[j]? = some b → ∃ e acc', es[j - acc.length]? = some e ∧ b = bitsOf acc' e ∧ ∀ k, k < acc'.length → (befAcc acc es)[k]? = acc'[k]?
  | [], acc, j, b, h, hb => by rw [befAcc, List.getElem?_eq_none h] at hb; cases hb
  | e :: es, acc, j, b, h, hb => by
    rw [befAcc] at hb ⊢
    rcases Nat.eq_or_lt_of_le h with h' | h'
    · subst h'
      rw [befAcc_pre es _ _ (by simp), List.getElem?_append_right (Nat.le_refl _)] at hb
      simp at hb
      refine ⟨e, acc, by simp, hb.symm, fun k hk => ?_⟩
      rw [befAcc_pre es _ k (by simp; omega), List.getElem?_append_left hk]
    · obtain ⟨e', acc', h1, h2, h3⟩ := befAcc_at es (acc ++ [bitsOf acc e]) j b (by simp; omega) hb
      refine ⟨e', acc', ?_, h2, h3⟩
      rw [← h1]
      have : j - acc.length = (j - (acc ++ [bitsOf acc e]).length) + 1 := by simp; omega
      rw [this, List.getElem?_cons_succ]

theorem befAll_bit {es : List (List Nat)} {i j : Nat} (h : befOf (befAll es) i j = true) : ∃ e, es[j]? = some e ∧ ∃ k ∈ e, k = i ∨ befOf (befAll es) i k = true := by
  unfold befOf at h
  rw [List.getD_eq_getElem?_getD] at h
  cases hb : (befAll es)[j]? with
  | none => rw [hb] at h; simp at h
  | some b =>
    rw [hb] at h
    simp at h
    obtain ⟨e, acc', h1, h2, h3⟩ := befAcc_at es [] j b (Nat.zero_le _) hb
    subst h2
    obtain ⟨k, hk, h4⟩ := bitsOf_bit h
    refine ⟨e, by simpa using h1, k, hk, h4.imp id (fun h5 => ?_)⟩
    unfold befOf
    rw [List.getD_eq_getElem?_getD] at h5 ⊢
    rcases Nat.lt_or_ge k acc'.length with hl | hl
    · have := h3 k hl
      unfold befAll
      rw [this]; exact h5
    · rw [List.getElem?_eq_none hl] at h5; simp at h5

section gen
variable {P : Program} {N : Nat} {ops : Array Oper}
theorem co_nosel {o : Oper} {x : XO} (h : co P o = some x) (cs : Array SelectCase) (b : Bool) : o.op ≠ .select cs b := by
  intro he
  unfold co co1 co2 at h
  rw [he] at h
  simp at h
theorem copL_mem {ops : Array Oper} : ∀ {os : List Oper} {l : List XOp}, copL P N ops os = some l → ∀ (j : Nat) (o : Oper), os[j]? = some o → ∃ x, l[j]? = some x ∧ cop P N ops o = some x
  | [], l, h, j, o, ho => by simp at ho
  | o' :: os, l, h, j, o, ho => by
    simp only [copL] at h
    (repeat' split at h) <;> simp at h
    rename_i x h1 _ xs h2
    subst h
    cases j with
    | zero => simp at ho; subst ho; exact ⟨x, by simp, h1⟩
    | succ j => simp at ho; obtain ⟨y, h3, h4⟩ := copL_mem h2 j o ho; exact ⟨y, by simpa using h3, h4⟩
theorem copL_length {ops : Array Oper} : ∀ {os : List Oper} {l : List XOp}, copL P N ops os = some l → l.length = os.length
  | [], l, h => by simp [copL] at h; simp [← h]
  | o' :: os, l, h => by
    simp only [copL] at h
    (repeat' split at h) <;> simp at h
    rename_i x h1 _ xs h2
    subst h
    simp [copL_length h2]

theorem gen_of {l : List XOp} (hl : copL P N ops ops.toList = some l) (hap : apartOk ops = true) : Gen ops (befOf (befAll (ops.toList.map edgesOf))) := by
  have hes : ∀ (j : Nat) e, (ops.toList.map edgesOf)[j]? = some e → ∃ o, ops[j]? = some o ∧ edgesOf o = e := by
    intro j e h
    rw [List.getElem?_map] at h
    cases ho : ops.toList[j]? with
    | none => rw [ho] at h; cases h
    | some o => rw [ho] at h; simp at h; exact ⟨o, by simpa using ho, h⟩
  have hmem : ∀ (o : Oper) k, k ∈ edgesOf o ↔ ∃ e ∈ o.after, Region.binds .any e = true ∧ e.on = k := by
    intro o k
    unfold edgesOf
    simp only [List.mem_map, List.mem_filter, Array.mem_toList_iff]
    constructor
    · rintro ⟨e, ⟨h1, h2⟩, h3⟩; exact ⟨e, h1, h2, h3⟩
    · rintro ⟨e, h1, h2, h3⟩; exact ⟨e, ⟨h1, h2⟩, h3⟩
  have hchk := hap
  unfold apartOk at hchk
  simp only [List.all_eq_true, List.mem_range, Bool.and_eq_true] at hchk
  have hgen : ∀ i j, befOf (befAll (ops.toList.map edgesOf)) i j = true → ∃ o, ops[j]? = some o ∧ ∃ e ∈ o.after, Region.binds .any e = true ∧ (e.on = i ∨ befOf (befAll (ops.toList.map edgesOf)) i e.on = true) := by
    intro i j h
    obtain ⟨e, he, k, hk, h2⟩ := befAll_bit h
    obtain ⟨o, ho, rfl⟩ := hes j e he
    obtain ⟨ed, h3, h4, rfl⟩ := (hmem o k).1 hk
    exact ⟨o, ho, ed, h3, h4, h2⟩
  refine ⟨hgen, ?_, ?_, ?_⟩
  · intro i j
    induction j using Nat.strongRecOn with
    | ind j ih =>
      intro h
      obtain ⟨o, ho, e, he, hb, h2⟩ := hgen i j h
      have hj : j < ops.size := (Array.getElem?_eq_some_iff.1 ho).1
      have h3 := (hchk j hj).1 e.on (by
        rw [List.getD_eq_getElem?_getD, List.getElem?_map]
        simp only [Array.getElem?_toList, ho, Option.map_some, Option.getD_some]
        exact (hmem o e.on).2 ⟨e, he, hb, rfl⟩)
      have h3 : e.on < j := by simpa [Nat.blt_eq] using h3
      rcases h2 with h2 | h2
      · omega
      · exact Nat.lt_trans (ih e.on h3 h2) h3
  · intro i j oi oj hi hj hne hno hb
    have hil : i < ops.size := (Array.getElem?_eq_some_iff.1 hi).1
    have hjl : j < ops.size := (Array.getElem?_eq_some_iff.1 hj).1
    have h3 := (hchk i hil).2 j hjl
    simp only [Bool.or_eq_true] at h3
    rcases h3 with ((h3 | h3) | h3) | h3
    · exact absurd (Nat.eq_of_beq_eq_true h3) hne
    · exfalso
      rw [List.getD_eq_getElem?_getD, List.getElem?_map] at h3
      simp only [Array.getElem?_toList, hj, Option.map_some, Option.getD_some, List.contains_eq_mem, decide_eq_true_eq] at h3
      obtain ⟨e, he, hb', h4⟩ := (hmem oj i).1 h3
      exact hno e he hb' h4
    · rw [h3] at hb; cases hb
    · simpa [hi, hj] using h3
  · intro j o cs b ho
    obtain ⟨x, _, hx⟩ := copL_mem hl j o (by simpa using ho)
    exact co_nosel (cop_inv (e := []) hx).1 cs b
end gen

/-! ### the walk through a region that draws its order -/
def listedOf (n m : Nat) : Array Bool := ((List.range n).map (fun i => m.testBit i)).toArray
def isWB (l : List XOp) (i : Nat) : Bool := match l[i]? with
  | some x => isWX x.op
  | none => true
def liveB (n : Nat) (B : List Nat) (ws m r : Nat) : Bool := (List.range n).all (fun k => !(m.testBit k && ws.testBit k && befOf B r k))
def NowL (n : Nat) (B : List Nat) (ws m : Nat) : Rec → World → Prop
  | [], _ => True
  | (i, c) :: R, w => (liveB n B ws m i = true → c w) ∧ NowL n B ws m R w

/-- What is left of a region that draws its order: todo, of which m have come up; R: what was read, and must stay. -/
def XDr (P : Program) (fn : FuncId) (N : Nat) (es : List (List Nat)) (B : List Nat) (ws : Nat) (R : Rec) (todo : List (Nat × XOp)) (m : Nat) (k : List XI) (e : Env) (w : World) (Q : Value → World → Prop) : Prop :=
  ∀ ops l, copL P N ops ops.toList = some l → ops.toList.map edgesOf = es → befAll es = B → wsOf 0 l = ws → apartOk ops = true → (∀ p ∈ todo, l[p.1]? = some p.2) →
    ∀ a, Agree N e a → Down (befOf B) (listedOf es.length m) → NowL es.length B ws m R w →
      wpAnyR P ops (fun ex a' w' => ex = .normal ∧ ∃ e', Agree N e' a' ∧ XRun P fn N k e' w' Q) (isWB l) (befOf B) R todo.length (listedOf es.length m) a w

theorem wsOf_bit : ∀ (l : List XOp) (s i : Nat) (x : XOp), l[i]? = some x → (wsOf s l).testBit (s + i) = isWX x.op
  | [], s, i, x, h => by simp at h
  | y :: l, s, i, x, h => by
    have hlow : ∀ (l : List XOp) (s j : Nat), j < s → (wsOf s l).testBit j = false := by
      intro l
      induction l with
      | nil => intro s j _; simp [wsOf]
      | cons z l ih =>
        intro s j hj
        simp only [wsOf, Nat.testBit_or, ih (s + 1) j (by omega), Bool.or_false]
        cases isWX z.op
        · simp
        · simp only [Nat.testBit_two_pow]; simp; omega
    simp only [wsOf, Nat.testBit_or]
    cases i with
    | zero =>
      simp at h
      subst h
      rw [Nat.add_zero, hlow l (s + 1) s (by omega)]
      cases isWX y.op <;> simp
    | succ i =>
      have ih := wsOf_bit l (s + 1) i x (by simpa using h)
      have h1 : s + (i + 1) = s + 1 + i := by omega
      rw [h1, ih]
      cases isWX y.op
      · simp
      · simp only [Nat.testBit_two_pow]
        have : ¬ s = s + 1 + i := by omega
        simp [this]

theorem listedOf_get (n m i : Nat) (d : Bool) (hi : i < n) : (listedOf n m).getD i d = m.testBit i := by
  unfold listedOf
  simp [hi]
theorem listedOf_size (n m : Nat) : (listedOf n m).size = n := by simp [listedOf]
theorem listedOf_out (n m i : Nat) (d : Bool) (hi : n ≤ i) : (listedOf n m).getD i d = d := by
  unfold listedOf
  simp [hi]
theorem listedOf_set (n m i : Nat) : (listedOf n m).setIfInBounds i true = listedOf n (m ||| 2 ^ i) := by
  unfold listedOf
  rw [List.setIfInBounds_toArray]
  congr 1
  apply List.ext_getElem?
  intro j
  rw [List.getElem?_set]
  by_cases hij : i = j
  · subst hij
    by_cases hi : i < n
    · simp [hi]
    · simp [hi]
  · rw [if_neg hij]
    by_cases hj : j < n
    · have : (2 ^ i).testBit j = false := by rw [Nat.testBit_two_pow]; simp [hij]
      simp [hj, this]
    · simp [hj]

section
variable {P : Program} {fn : FuncId} {N : Nat} {es : List (List Nat)} {B : List Nat} {ws m : Nat} {R : Rec} {todo : List (Nat × XOp)} {k : List XI} {e : Env} {w : World} {Q : Value → World → Prop}

theorem edges_lt {ops : Array Oper} (he : ops.toList.map edgesOf = es) (hap : apartOk ops = true) (i q : Nat) (hq : q ∈ es.getD i []) : q < es.length := by
  have hn : es.length = ops.size := by rw [← he]; simp
  rcases Nat.lt_or_ge i ops.size with hi | hi
  · unfold apartOk at hap
    simp only [List.all_eq_true, List.mem_range, Bool.and_eq_true] at hap
    have := (hap i hi).1 q (by rw [he]; exact hq)
    rw [Nat.blt_eq] at this
    omega
  · rw [List.getD_eq_getElem?_getD, List.getElem?_eq_none (by omega)] at hq
    simp at hq
theorem ready_es {ops : Array Oper} (he : ops.toList.map edgesOf = es) (hap : apartOk ops = true) (i : Nat) : i ∈ Region.ready .any ops (listedOf es.length m) ↔ rdyB es m i = true := by
  have hn : es.length = ops.size := by rw [← he]; simp
  rw [mem_ready]
  unfold rdyB
  simp only [Bool.and_eq_true, Bool.not_eq_true']
  constructor
  · rintro ⟨h0, o, ho, hall⟩
    have hlt : i < ops.size := (Array.getElem?_eq_some_iff.1 ho).1
    rw [listedOf_get _ _ _ _ (by omega)] at h0
    refine ⟨⟨h0, by rw [Nat.blt_eq]; omega⟩, ?_⟩
    rw [List.all_eq_true]
    intro q hq
    rw [← he, List.getD_eq_getElem?_getD, List.getElem?_map] at hq
    simp only [Array.getElem?_toList, ho, Option.map_some, Option.getD_some] at hq
    unfold edgesOf at hq
    simp only [List.mem_map, List.mem_filter, Array.mem_toList_iff] at hq
    obtain ⟨ed, ⟨h1, h2⟩, rfl⟩ := hq
    have h3 := hall ed h1 h2
    rcases Nat.lt_or_ge ed.on es.length with h4 | h4
    · rwa [listedOf_get _ _ _ _ h4] at h3
    · rw [listedOf_out _ _ _ _ h4] at h3; cases h3
  · rintro ⟨⟨h0, hlt⟩, hall⟩
    rw [Nat.blt_eq] at hlt
    have hi : i < ops.size := by omega
    refine ⟨by rw [listedOf_get _ _ _ _ hlt]; exact h0, ops[i], Array.getElem?_eq_getElem hi, fun ed h1 h2 => ?_⟩
    rw [List.all_eq_true] at hall
    have hmem : ed.on ∈ es.getD i [] := by
      rw [← he, List.getD_eq_getElem?_getD, List.getElem?_map]
      simp only [Array.getElem?_toList, Array.getElem?_eq_getElem hi, Option.map_some, Option.getD_some]
      unfold edgesOf
      simp only [List.mem_map, List.mem_filter, Array.mem_toList_iff]
      exact ⟨ed, ⟨h1, h2⟩, rfl⟩
    have h3 := hall ed.on hmem
    rcases Nat.lt_or_ge ed.on es.length with h4 | h4
    · rw [listedOf_get _ _ _ _ h4]; exact h3
    · have := edges_lt he hap i _ hmem
      omega

theorem now_iff {l : List XOp} (hws : wsOf 0 l = ws) (hn : es.length = l.length) : ∀ {R : Rec}, NowL es.length B ws m R w ↔ Now (isWB l) (befOf B) R (listedOf es.length m) w := by
  have hlive : ∀ r, liveB es.length B ws m r = true ↔ live (isWB l) (befOf B) (listedOf es.length m) r := by
    intro r
    unfold liveB live
    rw [List.all_eq_true]
    constructor
    · intro h q hq hw
      rcases Nat.lt_or_ge q es.length with hlt | hge
      · rw [listedOf_get _ _ _ _ hlt] at hq
        have h1 := h q (List.mem_range.2 hlt)
        have hwq : ws.testBit q = true := by
          unfold isWB at hw
          rw [List.getElem?_eq_getElem (by omega : q < l.length)] at hw
          have := wsOf_bit l 0 q l[q] (List.getElem?_eq_getElem (by omega))
          rw [Nat.zero_add, hws] at this
          rw [this]; exact hw
        simpa [hq, hwq] using h1
      · rw [listedOf_out _ _ _ _ hge] at hq; cases hq
    · intro h q hq
      have hlt := List.mem_range.1 hq
      have h1 := h q
      rw [listedOf_get _ _ _ _ hlt] at h1
      cases hm : m.testBit q with
      | false => simp
      | true =>
        cases hwq : ws.testBit q with
        | false => simp
        | true =>
          have hw : isWB l q = true := by
            unfold isWB
            rw [List.getElem?_eq_getElem (by omega : q < l.length)]
            have := wsOf_bit l 0 q l[q] (List.getElem?_eq_getElem (by omega))
            rw [Nat.zero_add, hws] at this
            show isWX l[q].op = true
            rw [← this]; exact hwq
          simp [h1 hm hw]
  intro R
  induction R with
  | nil => exact ⟨fun _ p hp => (by cases hp), fun _ => trivial⟩
  | cons p R ih =>
    obtain ⟨i, c⟩ := p
    unfold NowL
    rw [ih, hlive]
    constructor
    · rintro ⟨h1, h2⟩ q hq hl
      rcases List.mem_cons.1 hq with rfl | hq
      · exact h1 hl
      · exact h2 q hq hl
    · intro h
      exact ⟨h (i, c) (List.mem_cons_self ..), fun q hq => h q (List.mem_cons_of_mem _ hq)⟩

/-- All have come up. -/
theorem r_done (hr : rdyL es m = []) (h : XRun P fn N k e w Q) : XDr P fn N es B ws R [] m k e w Q := by
  intro ops l hl he hB hws hap htodo a ha hD hN
  refine ⟨?_, rfl, e, ha, h⟩
  apply List.eq_nil_iff_forall_not_mem.2
  intro i hi
  have h1 := (ready_es he hap i).1 hi
  have h2 : i ∈ rdyL es m := by
    unfold rdyL
    rw [List.mem_filter, List.mem_range]
    refine ⟨?_, h1⟩
    unfold rdyB at h1
    simp only [Bool.and_eq_true, Nat.blt_eq] at h1
    exact h1.1.2
  rw [hr] at h2
  cases h2

theorem XDr.oper {ops : Array Oper} {l : List XOp} (hl : copL P N ops ops.toList = some l) {i : Nat} {x : XOp} (hx : l[i]? = some x) : ∃ o, ops[i]? = some o ∧ cop P N ops o = some x := by
  have hlen := copL_length hl
  have hi : i < ops.toList.length := by rw [← hlen]; exact (List.getElem?_eq_some_iff.1 hx).1
  obtain ⟨y, h1, h2⟩ := copL_mem hl i ops.toList[i] (List.getElem?_eq_getElem hi)
  rw [hx] at h1
  injection h1 with h1
  subst h1
  exact ⟨ops.toList[i], by simp, h2⟩

/-- One that changes nothing, taken as soon as it may come: what it read must stay (c). -/
theorem r_take {i : Nat} {d : Option Nat} {g : Option (Nat × Bool)} {xo : XO} {v : Value} {c : World → Prop} (hr : rdyB es m i = true) (hw : isWX xo = false)
    (hv : (wantedE e g = some true ∧ ∀ w, c w → Gives P N xo e w v) ∨ (wantedE e g = some false ∧ v = undef)) (hc : c w)
    (h : XDr P fn N es B ws ((i, c) :: R) todo (m ||| 2 ^ i) k (Env.put e d v) w Q) : XDr P fn N es B ws R ((i, ⟨d, g, xo⟩) :: todo) m k e w Q := by
  intro ops l hl he hB hws hap htodo a ha hD hN0
  have hn : es.length = ops.size := by rw [← he]; simp
  have hnl : es.length = l.length := by rw [hn, copL_length hl]; simp
  obtain ⟨o, ho, hcop⟩ := XDr.oper hl (htodo _ (List.mem_cons_self ..))
  obtain ⟨hco, hdst, hdN, hwant⟩ := cop_inv (e := e) hcop
  have hG : Gen ops (befOf B) := by rw [← hB, ← he]; exact gen_of hl hap
  have hrd := (ready_es (m := m) he hap i).2 hr
  have hy : YieldsIf P ops c o v a := by
    rcases hv with ⟨hg, hv⟩ | ⟨hg, rfl⟩
    · exact .inl ⟨hwant true a ha hg, fun w hcw => hv w hcw o a hco ha⟩
    · exact .inr ⟨hwant false a ha hg, rfl⟩
  have hnw : isWB l i = false := by unfold isWB; rw [htodo _ (List.mem_cons_self ..)]; exact hw
  have hD' := hD.add hG hrd
  rw [listedOf_set] at hD'
  have hN1 : NowL es.length B ws (m ||| 2 ^ i) ((i, c) :: R) w := by
    rw [now_iff hws hnl]
    intro p hp hlv
    rcases List.mem_cons.1 hp with rfl | hp
    · exact hc
    · have h1 := (now_iff (es := es) (B := B) (m := m) (w := w) hws hnl).1 hN0 p hp
      refine h1 (fun q hq hwq => hlv q ?_ hwq)
      rw [← listedOf_set, getD_iff (ready_lt hrd).1]
      exact .inr hq
  have hdst : o.dst = d := hdst
  have hh := h ops l hl he hB hws hap (fun p hp => htodo p (List.mem_cons_of_mem _ hp)) (a.put o.dst v) (by rw [hdst] at hdN ⊢; exact ha.put hdN _) hD' hN1
  rw [← listedOf_set] at hh
  exact wpAnyR_first hG ho hnw (fun _ _ _ hq => absurd hq.1 (by simp)) todo.length _ a w hD hrd hy hc ((now_iff hws hnl).1 hN0) hh

theorem wpAnyR_true {ops : Array Oper} {Q : Exit → Act → World → Prop} {isW : Nat → Bool} {bef : Nat → Nat → Bool} {i : Nat} : ∀ (fuel : Nat) (listed : Array Bool) (a : Act) (w : World), wpAnyR P ops Q isW bef R fuel listed a w → wpAnyR P ops Q isW bef ((i, fun _ => True) :: R) fuel listed a w
  | 0, _, _, _, h => h
  | fuel + 1, _, _, _, h => ⟨h.1, fun j hj => wpOp_mono (fun a' w' h' => ⟨fun q hq hl => (by
      rcases List.mem_cons.1 hq with rfl | hq
      · trivial
      · exact h'.1 q hq hl), wpAnyR_true fuel _ a' w' h'.2⟩) (h.2 j hj)⟩
theorem XDr.true {i : Nat} (h : XDr P fn N es B ws R todo m k e w Q) : XDr P fn N es B ws ((i, fun _ => True) :: R) todo m k e w Q :=
  fun ops l hl he hB hws hap htodo a ha hD hN => wpAnyR_true _ _ _ _ (h ops l hl he hB hws hap htodo a ha hD hN.2)
/-- One that only computes. -/
theorem r_pure {i : Nat} {d : Option Nat} {g : Option (Nat × Bool)} {xo : XO} {v : Value} (hr : rdyB es m i = true) (hw : isWX xo = false) (hg : wantedE e g = some true) (hv : ∀ w, Gives P N xo e w v)
    (h : XDr P fn N es B ws R todo (m ||| 2 ^ i) k (Env.put e d v) w Q) : XDr P fn N es B ws R ((i, ⟨d, g, xo⟩) :: todo) m k e w Q :=
  r_take hr hw (.inl ⟨hg, fun w _ => hv w⟩) trivial h.true
theorem r_skip {i : Nat} {d : Option Nat} {g : Option (Nat × Bool)} {xo : XO} (hr : rdyB es m i = true) (hw : isWX xo = false) (hg : wantedE e g = some false)
    (h : XDr P fn N es B ws R todo (m ||| 2 ^ i) k (Env.put e d undef) w Q) : XDr P fn N es B ws R ((i, ⟨d, g, xo⟩) :: todo) m k e w Q :=
  r_take hr hw (.inr ⟨hg, rfl⟩) trivial h.true
/-- A load, of one cell. -/
theorem r_ld {i : Nat} {d : Option Nat} {g : Option (Nat × Bool)} {x : Operand} {a : Addr} {v : Value} (hr : rdyB es m i = true) (hg : wantedE e g = some true) (hx : Env.val e x = some (.pointer (some a))) (hc : w.cell? a = some v)
    (h : XDr P fn N es B ws ((i, fun w => w.cell? a = some v) :: R) todo (m ||| 2 ^ i) k (Env.put e d v) w Q) : XDr P fn N es B ws R ((i, ⟨d, g, .ld x none⟩) :: todo) m k e w Q :=
  r_take hr rfl (.inl ⟨hg, fun _ hc => g_ld hx hc⟩) hc h
/-- A load of several cells. -/
theorem r_ldn {i : Nat} {d : Option Nat} {g : Option (Nat × Bool)} {x : Operand} {b o n : Nat} {vs : List Value} (hr : rdyB es m i = true) (hg : wantedE e g = some true) (hx : Env.val e x = some (.pointer (some ⟨b, o, none⟩))) (hn : vs.length = n)
    (hc : ∀ j u, vs[j]? = some u → w.cell? ⟨b, o + j, none⟩ = some u)
    (h : XDr P fn N es B ws ((i, fun w => ∀ j u, vs[j]? = some u → w.cell? ⟨b, o + j, none⟩ = some u) :: R) todo (m ||| 2 ^ i) k (Env.put e d (.agg vs.toArray)) w Q) : XDr P fn N es B ws R ((i, ⟨d, g, .ld x (some n)⟩) :: todo) m k e w Q :=
  r_take hr rfl (.inl ⟨hg, fun _ hc => g_ldn hx hn hc⟩) hc h

/-- The next one, when none but it may come up. -/
theorem r_do {i : Nat} {d : Option Nat} {g : Option (Nat × Bool)} {xo : XO} {K : Value → World → Prop} (hr : rdyL es m = [i]) (hg : wantedE e g = some true) (hd : Does P N xo e w K)
    (h : ∀ v w', K v w' → NowL es.length B ws (m ||| 2 ^ i) R w' ∧ XDr P fn N es B ws R todo (m ||| 2 ^ i) k (Env.put e d v) w' Q) : XDr P fn N es B ws R ((i, ⟨d, g, xo⟩) :: todo) m k e w Q := by
  intro ops l hl he hB hws hap htodo a ha hD hN0
  have hn : es.length = ops.size := by rw [← he]; simp
  have hnl : es.length = l.length := by rw [hn, copL_length hl]; simp
  obtain ⟨o, ho, hcop⟩ := XDr.oper hl (htodo _ (List.mem_cons_self ..))
  obtain ⟨hco, hdst, hdN, hwant⟩ := cop_inv (e := e) hcop
  have hG : Gen ops (befOf B) := by rw [← hB, ← he]; exact gen_of hl hap
  have hi : i ∈ rdyL es m := by rw [hr]; exact List.mem_cons_self ..
  have hrb : rdyB es m i = true := by unfold rdyL at hi; exact (List.mem_filter.1 hi).2
  have hrd := (ready_es (m := m) he hap i).2 hrb
  have hD' := hD.add hG hrd
  rw [listedOf_set] at hD'
  refine ⟨fun h0 => (by rw [h0] at hrd; cases hrd), fun j hj => ?_⟩
  have hji : j = i := by
    have h1 := (ready_es he hap j).1 hj
    have h2 : j ∈ rdyL es m := by
      unfold rdyL
      rw [List.mem_filter, List.mem_range]
      refine ⟨?_, h1⟩
      unfold rdyB at h1
      simp only [Bool.and_eq_true, Nat.blt_eq] at h1
      exact h1.1.2
    rw [hr] at h2
    simpa using h2
  subst hji
  unfold wpOp
  rw [ho]
  show if Region.wanted o (yielded ops a.tmps) = true then _ else _
  rw [if_pos (hwant true a ha hg)]
  refine .inl (hd o a hco ha _ _ (fun v w' hv => ?_))
  obtain ⟨h1, h2⟩ := h v w' hv
  rw [listedOf_set]
  exact ⟨(now_iff hws hnl).1 h1, h2 ops l hl he hB hws hap (fun p hp => htodo p (List.mem_cons_of_mem _ hp)) _ (by have hdst : o.dst = d := hdst; rw [hdst] at hdN ⊢; exact ha.put hdN _) hD' h1⟩

theorem pickL_mem {l : List XOp} : ∀ {is : List Nat} {t : List (Nat × XOp)}, pickL l is = some t → ∀ p ∈ t, l[p.1]? = some p.2
  | [], t, h, p, hp => by simp [pickL] at h; subst h; cases hp
  | i :: is, t, h, p, hp => by
    simp only [pickL] at h
    split at h
    · rename_i x r h1 h2
      simp at h
      subst h
      rcases List.mem_cons.1 hp with rfl | hp
      · exact h1
      · exact pickL_mem h2 p hp
    · simp at h
theorem pickL_length {l : List XOp} : ∀ {is : List Nat} {t : List (Nat × XOp)}, pickL l is = some t → t.length = is.length
  | [], t, h => by simp [pickL] at h; simp [← h]
  | i :: is, t, h => by
    simp only [pickL] at h
    split at h
    · rename_i x r h1 h2
      simp at h
      subst h
      simp [pickL_length h2]
    · simp at h

/-- The beginning: behind the draw. -/
theorem x_drawn (hlen : todo.length = es.length) (h : XDr P fn N es B ws [] todo 0 k e w.drew Q) : XRun P fn N (.code (.drawn todo es B ws) :: k) e w Q := by
  intro todo' a hr ha
  cases hr with | @code c' _ _ t hc r =>
  cases c' <;> unfold cc at hc
  case region id ops d =>
    cases d <;> simp only [] at hc <;> (repeat' split at hc) <;> simp at hc
    rename_i l hl hflag _ todo2 hpick
    obtain ⟨rfl, rfl, rfl, rfl⟩ := hc
    simp only [Bool.and_eq_true] at hflag
    obtain ⟨hap, hfol⟩ := hflag
    intro b cs hb hk
    have h1 := h ops l hl rfl rfl rfl hap (pickL_mem hpick) a ha (fun i q hbf hq => by
      rcases Nat.lt_or_ge q (ops.toList.map edgesOf).length with hlt | hge
      · rw [listedOf_get _ _ _ _ hlt] at hq; simp at hq
      · rw [listedOf_out _ _ _ _ hge] at hq; cases hq) trivial
    have h2 := wpAny_of_R _ _ _ _ h1
    have hsz : todo2.length = ops.size := by rw [hlen]; simp
    have hls : listedOf (ops.toList.map edgesOf).length 0 = Array.replicate ops.size false := by
      apply Array.toList_inj.1
      unfold listedOf
      simp [List.map_const']
    rw [hsz, hls] at h2
    obtain ⟨ex, a', w', ⟨rfl, e', ha', hx⟩, harr⟩ := wp_region_any (id := id) hfol h2 b t cs
    obtain ⟨en, w'', fr, hR, hcm, hf, hlv⟩ := hx t a' r ha' b cs hb hk
    exact ⟨en, w'', fr, hR, .of_steps harr hcm, hf, hlv⟩
  all_goals first | (simp at hc; done) | ((repeat' split at hc) <;> simp at hc)

theorem r_cmp_t {i : Nat} {d : Option Nat} {g : Option (Nat × Bool)} {op : BinOp} {t : TypeId} {x y : Operand} {kd : IntKind} {a b : Int} (hr : rdyB es m i = true) (hg : wantedE e g = some true) (hx : Env.val e x = some (.int kd a)) (hy : Env.val e y = some (.int kd b)) (hop : isCmp op = true) (hp : cmpProp op a b)
    (h : XDr P fn N es B ws R todo (m ||| 2 ^ i) k (Env.put e d (.bool true)) w Q) : XDr P fn N es B ws R ((i, ⟨d, g, .bin op t x y⟩) :: todo) m k e w Q :=
  r_pure hr rfl hg (fun _ => g_cmp hx hy hop) (by rw [decide_eq_true hp]; exact h)
theorem r_cmp_f {i : Nat} {d : Option Nat} {g : Option (Nat × Bool)} {op : BinOp} {t : TypeId} {x y : Operand} {kd : IntKind} {a b : Int} (hr : rdyB es m i = true) (hg : wantedE e g = some true) (hx : Env.val e x = some (.int kd a)) (hy : Env.val e y = some (.int kd b)) (hop : isCmp op = true) (hp : ¬ cmpProp op a b)
    (h : XDr P fn N es B ws R todo (m ||| 2 ^ i) k (Env.put e d (.bool false)) w Q) : XDr P fn N es B ws R ((i, ⟨d, g, .bin op t x y⟩) :: todo) m k e w Q :=
  r_pure hr rfl hg (fun _ => g_cmp hx hy hop) (by rw [decide_eq_false hp]; exact h)
theorem r_cmp {i : Nat} {d : Option Nat} {g : Option (Nat × Bool)} {op : BinOp} {t : TypeId} {x y : Operand} {kd : IntKind} {a b : Int} (hr : rdyB es m i = true) (hg : wantedE e g = some true) (hx : Env.val e x = some (.int kd a)) (hy : Env.val e y = some (.int kd b)) (hop : isCmp op = true)
    (h1 : cmpProp op a b → XDr P fn N es B ws R todo (m ||| 2 ^ i) k (Env.put e d (.bool true)) w Q) (h2 : ¬ cmpProp op a b → XDr P fn N es B ws R todo (m ||| 2 ^ i) k (Env.put e d (.bool false)) w Q) : XDr P fn N es B ws R ((i, ⟨d, g, .bin op t x y⟩) :: todo) m k e w Q := by
  by_cases hp : cmpProp op a b
  · exact r_cmp_t hr hg hx hy hop hp (h1 hp)
  · exact r_cmp_f hr hg hx hy hop hp (h2 hp)
theorem r_call {i : Nat} {d : Option Nat} {g : Option (Nat × Bool)} {f : FuncId} {args : List Operand} {vs : List Value} {K : Value → World → Prop} (hr : rdyL es m = [i]) (hg : wantedE e g = some true) (ha : Env.vals e args = some vs) (hc : Ret P f vs.toArray w K)
    (h : ∀ v w', K v w' → NowL es.length B ws (m ||| 2 ^ i) R w' ∧ XDr P fn N es B ws R todo (m ||| 2 ^ i) k (Env.put e d v) w' Q) : XDr P fn N es B ws R ((i, ⟨d, g, .call f args⟩) :: todo) m k e w Q :=
  r_do hr hg (d_call ha hc) h
theorem now_nil {n : Nat} : NowL n B ws m [] w := trivial
theorem now_skip {n i : Nat} {c : World → Prop} (h : liveB n B ws m i = false) (hr : NowL n B ws m R w) : NowL n B ws m ((i, c) :: R) w := ⟨fun h' => (by rw [h] at h'; cases h'), hr⟩
theorem now_cons {n i : Nat} {c : World → Prop} (h : c w) (hr : NowL n B ws m R w) : NowL n B ws m ((i, c) :: R) w := ⟨fun _ => h, hr⟩
end
end Go.HX
namespace Go.HX
open Go Go.RowKit

def BoolIs (v : Value) (p : Prop) : Prop := (v = .bool true ∧ p) ∨ (v = .bool false ∧ ¬ p)
theorem BoolIs.mono {v : Value} {p q : Prop} (h : BoolIs v p) (e : p ↔ q) : BoolIs v q := h.imp (fun h => ⟨h.1, e.1 h.2⟩) (fun h => ⟨h.1, fun hq => h.2 (e.2 hq)⟩)
theorem BoolIs.t {p : Prop} (h : p) : BoolIs (.bool true) p := .inl ⟨rfl, h⟩
theorem BoolIs.f {p : Prop} (h : ¬ p) : BoolIs (.bool false) p := .inr ⟨rfl, h⟩

section
variable {P : Program} {fn : FuncId} {N : Nat} {e : Env} {w w' : World} {Q : Value → World → Prop} {k : List XI} {l : List XOp}
variable {S : SP} {G G' : List HProp} {x y : Operand}

/-! ### reading rows -/
theorem RdS.nil (w : World) (n : Nat) : RdS w n (.slice none 0 0) [] := ⟨none, 0, 0, rfl, Nat.le_refl _, by simp, fun h => absurd h (by omega)⟩
theorem RdS.len {n len cap : Nat} {a : Option Addr} {cs : List Value} (h : RdS w n (.slice a len cap) cs) : cs.length = len * n ∧ len ≤ cap := by
  obtain ⟨a', len', cap', he, h1, h2, _⟩ := h
  simp at he
  obtain ⟨rfl, rfl, rfl⟩ := he
  exact ⟨h2, h1⟩
theorem RdS.addr {n len cap : Nat} {a : Option Addr} {cs : List Value} (h : RdS w n (.slice a len cap) cs) (hl : 0 < len) : ∃ b o, a = some ⟨b, o, none⟩ := by
  obtain ⟨a', len', cap', he, h1, h2, h3⟩ := h
  simp at he
  obtain ⟨rfl, rfl, rfl⟩ := he
  obtain ⟨b, o, h4, _⟩ := h3 hl
  exact ⟨b, o, h4⟩
theorem RdS.cell {n len cap b o j : Nat} {cs : List Value} {u : Value} (h : RdS w n (.slice (some ⟨b, o, none⟩) len cap) cs) (hj : cs[j]? = some u) : w.cell? ⟨b, o + j, none⟩ = some u := by
  obtain ⟨a', len', cap', he, h1, h2, h3⟩ := h
  simp at he
  obtain ⟨rfl, rfl, rfl⟩ := he
  have hjl := (List.getElem?_eq_some_iff.1 hj).1
  obtain ⟨b', o', h4, h5⟩ := h3 (by
    rcases Nat.eq_zero_or_pos len with h0 | h0
    · subst h0; simp at h2; subst h2; simp at hjl
    · exact h0)
  simp at h4
  obtain ⟨rfl, rfl⟩ := h4
  exact h5 j u hj
theorem ownS_rd {E : TypeId} {n : Nat} {v : Value} {cs : List Value} (h : Sat S w G) (hh : Has G (ownS E n v cs) G') : RdS w n v cs := by
  obtain ⟨H, ⟨H1, H2, a, g, d, rfl⟩, ho⟩ := (h.pick hh).own
  rcases a with ⟨rfl, rfl, _⟩ | ⟨b, len, cap, spare, rfl, hl, h1, h2, h3, hp⟩
  · exact RdS.nil w n
  · refine ⟨_, len, cap, rfl, h1, hl, fun _ => ⟨b, 0, rfl, fun j u hj => ?_⟩⟩
    unfold pt at hp
    subst hp
    have h9 := (ho b (.cells (cs ++ spare).toArray E (0, 0)) (by simp [Hun])).1
    rw [Nat.zero_add]
    refine cell_of_heap h9 ?_
    rw [List.getElem?_toArray, List.getElem?_append_left (List.getElem?_eq_some_iff.1 hj).1]; exact hj

/-- The row's shape. -/
theorem ownS_shape {E : TypeId} {n : Nat} {v : Value} {cs : List Value} (len : Nat) (h : Sat S w G) (hh : Has G (ownS E n v cs) G') (hl : cs.length = len * n) (h0 : 0 < len := by decide) (hn : 0 < n := by decide) : ∃ b cap, v = .slice (some ⟨b, 0, none⟩) len cap := by
  obtain ⟨H, ⟨H1, H2, aa, g, d, rfl⟩, ho⟩ := (h.pick hh).own
  have hp := Nat.mul_pos h0 hn
  rcases aa with ⟨rfl, rfl, _⟩ | ⟨b, len', cap', spare, rfl, hl', h1, h2, h3, _⟩
  · rw [List.length_nil] at hl; rw [← hl] at hp; cases hp
  · refine ⟨b, cap', ?_⟩
    have : len' = len := Nat.eq_of_mul_eq_mul_right hn (by rw [← hl', hl])
    rw [this]
/-- The row's block, open: for a store. -/
theorem ownS_open {E : TypeId} {n len cap : Nat} {a : Option Addr} {cs : List Value} (h : Sat S w (ownS E n (.slice a len cap) cs :: G)) (hl : 0 < len) :
    ∃ b spare, a = some ⟨b, 0, none⟩ ∧ cs.length = len * n ∧ len ≤ cap ∧ cap ≤ maxLen ∧ spare.length = (cap - len) * n ∧ Sat S w (pt b (.cells (cs ++ spare).toArray E (0, 0)) :: G) := by
  obtain ⟨H, ⟨H1, H2, aa, g, d, rfl⟩, ho⟩ := h.own
  rcases aa with ⟨he, _, _⟩ | ⟨b, len', cap', spare, he, hl', h1, h2, h3, hp⟩
  · simp at he; omega
  · simp at he
    obtain ⟨rfl, rfl, rfl⟩ := he
    exact ⟨b, spare, rfl, hl', h1, h2, h3, h.below, h.le, _, ⟨H1, H2, hp, g, d, rfl⟩, ho⟩
theorem ownS_shut {E : TypeId} {n len cap b : Nat} {cs spare : List Value} (h : Sat S w (pt b (.cells (cs ++ spare).toArray E (0, 0)) :: G)) (hl : cs.length = len * n) (h1 : len ≤ cap) (h2 : cap ≤ maxLen) (h3 : spare.length = (cap - len) * n) :
    Sat S w (ownS E n (.slice (some ⟨b, 0, none⟩) len cap) cs :: G) :=
  h.mono (fun _ hH => .inr ⟨b, len, cap, spare, rfl, hl, h1, h2, h3, hH⟩)
/-- What make made. -/
theorem ownS_made {E : TypeId} {n len cap b : Nat} {z : List Value} (h : Sat S w (pt b (.cells (zerosA z cap).toArray E (0, 0)) :: G)) (hz : z.length = n) (h1 : len ≤ cap) (h2 : cap ≤ maxLen) :
    Sat S w (ownS E n (.slice (some ⟨b, 0, none⟩) len cap) (zerosA z len) :: G) := by
  have he : zerosA z cap = zerosA z len ++ zerosA z (cap - len) := by
    unfold zerosA
    have : cap = len + (cap - len) := by omega
    conv => lhs; rw [this, List.range_add, List.flatMap_append]
    congr 1
    rw [List.flatMap_map]
  rw [he] at h
  exact ownS_shut h (by rw [zerosA_length, hz]) h1 h2 (by rw [zerosA_length, hz])

/-- Whole numbers in a row. -/
def ints (kd : IntKind) (xs : List Int) : List Value := xs.map (Value.int kd)
theorem ints_length (kd : IntKind) (xs : List Int) : (ints kd xs).length = xs.length := by simp [ints]
theorem ints_get {kd : IntKind} {xs : List Int} {i : Nat} (h : i < xs.length) : (ints kd xs)[i]? = some (.int kd (xs.getD i 0)) := by
  simp [ints, List.getElem?_eq_getElem h]
theorem ints_one (kd : IntKind) (xs : List Int) : ∀ u ∈ ints kd xs, u.oneCell' = true := by
  intro u hu
  simp [ints] at hu
  obtain ⟨a, _, rfl⟩ := hu
  rfl
theorem RdS.ilen {len cap : Nat} {a : Option Addr} {kd : IntKind} {xs : List Int} (h : RdS w 1 (.slice a len cap) (ints kd xs)) : xs.length = len := by
  have := h.len.1
  rw [ints_length] at this; omega
theorem zeros_ints (kd : IntKind) (n : Nat) : zerosA [Value.int kd 0] n = ints kd (List.replicate n 0) := by rw [zerosA_one]; simp [ints]
/-- make of a row of whole numbers -/
theorem p_mkI {E : TypeId} {by' : Nat} {kd : IntKind} {lo : Operand} {n : Nat} {k1 : IntKind} {dst : Option Nat} {g : Option (Nat × Bool)} (hg : wantedE e g = some true) (hl : Env.val e lo = some (.int k1 (n : Int))) (hb : n * by' ≤ 281474976710656) (hn63 : n ≤ 9223372036854775807)
    (h : Sat S w G) (hn : ∀ v w', Sat S w' (ownS E 1 v (ints kd (List.replicate n 0)) :: G) → XOps P fn N l k (Env.put e dst v) w' Q) : XOps P fn N (⟨dst, g, .mks E 1 by' [.int kd 0] lo lo⟩ :: l) k e w Q := by
  refine p_do hg (d_mks hl hl (by omega) (by omega) (by omega) (by omega) (by simp) rfl h) ?_
  rintro _ w' ⟨b, rfl, h'⟩
  refine hn _ _ ?_
  rw [← zeros_ints]
  simp only [Int.toNat_natCast] at h' ⊢
  exact ownS_made h' rfl (Nat.le_refl _) (by unfold maxLen; omega)
/-- An element of a row of whole numbers, read. -/
theorem g_ldI {b o q i len cap : Nat} {kd : IntKind} {xs : List Int} (hx : Env.val e x = some (.pointer (some ⟨b, q, none⟩))) (h : RdS w 1 (.slice (some ⟨b, o, none⟩) len cap) (ints kd xs)) (hq : q = o + i) (hi : i < xs.length) :
    Gives P N (.ld x none) e w (.int kd (xs.getD i 0)) := by
  subst hq
  exact g_ld hx (h.cell (ints_get hi))
theorem r_ldI {es : List (List Nat)} {B : List Nat} {ws m : Nat} {R : Rec} {todo : List (Nat × XOp)} {i0 : Nat} {d : Option Nat} {g : Option (Nat × Bool)} {b o q i len cap : Nat} {kd : IntKind} {xs : List Int} (hr : rdyB es m i0 = true) (hg : wantedE e g = some true)
    (hx : Env.val e x = some (.pointer (some ⟨b, q, none⟩))) (h : RdS w 1 (.slice (some ⟨b, o, none⟩) len cap) (ints kd xs)) (hq : q = o + i) (hi : i < xs.length)
    (hn : XDr P fn N es B ws ((i0, fun w => w.cell? ⟨b, o + i, none⟩ = some (.int kd (xs.getD i 0))) :: R) todo (m ||| 2 ^ i0) k (Env.put e d (.int kd (xs.getD i 0))) w Q) : XDr P fn N es B ws R ((i0, ⟨d, g, .ld x none⟩) :: todo) m k e w Q := by
  subst hq
  exact r_ld hr hg hx (h.cell (ints_get hi)) hn
/-- An owned row of whole numbers, open at one element. -/
theorem ownI_write {E : TypeId} {b i len cap : Nat} {kd : IntKind} {xs : List Int} (h : Sat S w (ownS E 1 (.slice (some ⟨b, 0, none⟩) len cap) (ints kd xs) :: G)) (hi : i < xs.length) :
    ∃ c, Sat S w (pt b (.cells c E (0, 0)) :: G) ∧ i < c.size ∧ c[i]? = some (.int kd (xs.getD i 0)) ∧ (∀ {w' : World}, Sat S w' (pt b (.cells c E (0, 0)) :: G) → Sat S w' (ownS E 1 (.slice (some ⟨b, 0, none⟩) len cap) (ints kd xs) :: G)) ∧
      ∀ {w' : World} {y : Int}, Sat S w' (pt b (.cells (c.setIfInBounds i (.int kd y)) E (0, 0)) :: G) → Sat S w' (ownS E 1 (.slice (some ⟨b, 0, none⟩) len cap) (ints kd (xs.set i y)) :: G) := by
  have hxl : xs.length = len := (ownS_rd h .here).ilen
  obtain ⟨b', spare, he, h1, h2, h3, h4, h5⟩ := ownS_open h (by omega)
  simp at he
  subst he
  refine ⟨_, h5, by simp [ints_length]; omega, ?_, fun {w'} h6 => ownS_shut h6 h1 h2 h3 h4, fun {w' y} h6 => ownS_shut (spare := spare) ?_ (by rw [ints_length, List.length_set, hxl]; omega) h2 h3 h4⟩
  · rw [List.getElem?_toArray, List.getElem?_append_left (by rw [ints_length]; exact hi), ints_get hi]
  · have : (ints kd xs ++ spare).toArray.setIfInBounds i (.int kd y) = (ints kd (xs.set i y) ++ spare).toArray := by
      rw [List.setIfInBounds_toArray, List.set_append_left _ _ (by rw [ints_length]; exact hi)]
      simp [ints, List.map_set]
    rw [this] at h6
    exact h6
/-- An element of an owned row of whole numbers, written. -/
theorem d_stI {E : TypeId} {b q i len cap : Nat} {kd : IntKind} {xs : List Int} {y : Int} {v : Operand} (hx : Env.val e x = some (.pointer (some ⟨b, q, none⟩))) (hv : Env.val e v = some (.int kd y))
    (h : Sat S w (ownS E 1 (.slice (some ⟨b, 0, none⟩) len cap) (ints kd xs) :: G)) (hq : q = i) (hi : i < xs.length) :
    Does P N (.st x v 1) e w (fun v' w' => v' = undef ∧ Sat S w' (ownS E 1 (.slice (some ⟨b, 0, none⟩) len cap) (ints kd (xs.set i y)) :: G)) := by
  subst hq
  have hxl : xs.length = len := (ownS_rd h .here).ilen
  obtain ⟨b', spare, he, h1, h2, h3, h4, h5⟩ := ownS_open h (by omega)
  simp at he
  subst he
  refine (d_st (o := q) hx hv rfl h5 (by simp [ints_length]; omega)).mono ?_
  rintro v' w' ⟨rfl, h6⟩
  refine ⟨rfl, ownS_shut (spare := spare) ?_ (by rw [ints_length, List.length_set, hxl]; omega) h2 h3 h4⟩
  have : (ints kd xs ++ spare).toArray.setIfInBounds q (.int kd y) = (ints kd (xs.set q y) ++ spare).toArray := by
    rw [List.setIfInBounds_toArray, List.set_append_left _ _ (by rw [ints_length]; exact hi)]
    simp [ints, List.map_set]
  rw [this] at h6
  exact h6

/-! ### slices' and literals' making -/
theorem fold_fill : ∀ (u : List Value) (k off : Nat) (cells : List Value), off + k + u.length ≤ cells.length →
    (u.zipIdx k).foldl (fun (cs : Array Value) (p : Value × Nat) => cs.setIfInBounds (off + p.2) p.1) cells.toArray = (cells.take (off + k) ++ u ++ cells.drop (off + k + u.length)).toArray
  | [], k, off, cells, h => by simp
  | v :: u, k, off, cells, h => by
    simp only [List.zipIdx_cons, List.foldl_cons, List.length_cons] at h ⊢
    rw [List.setIfInBounds_toArray, fold_fill u (k + 1) off (cells.set (off + k) v) (by simp; omega)]
    congr 1
    have := list_seg_step cells (off + k) v u (by omega)
    rw [show off + (k + 1) = off + k + 1 by omega]
    rw [show off + k + 1 + u.length = off + k + (u.length + 1) by omega] at this ⊢
    simpa using this
def fillL (place : Nat → Option (Nat × Nat)) (cells : List Value) : List (Nat × Value) → Option (List Value)
  | [] => some cells
  | (i, v) :: rest => match place i with
    | none => none
    | some (off, size) => match Nat.beq v.cells.toList.length size && Nat.ble (off + v.cells.toList.length) cells.length with
      | true => fillL place (cells.take off ++ v.cells.toList ++ cells.drop (off + v.cells.toList.length)) rest
      | false => none
theorem fill_fillL (place : Nat → Option (Nat × Nat)) : ∀ (vs : List (Nat × Value)) (cells : List Value) (r : List Value), fillL place cells vs = some r → Instr.fill place cells.toArray vs = some r.toArray
  | [], cells, r, h => by simp [fillL] at h; subst h; rfl
  | (i, v) :: rest, cells, r, h => by
    simp only [fillL] at h
    cases hp : place i with
    | none => rw [hp] at h; cases h
    | some q =>
      obtain ⟨off, size⟩ := q
      rw [hp] at h
      simp only at h
      split at h
      · rename_i hc
        simp only [Bool.and_eq_true] at hc
        have h1 : v.cells.size = size := by have := Nat.eq_of_beq_eq_true hc.1; simpa using this
        have h2 : off + v.cells.size ≤ cells.length := by have := Nat.le_of_ble_eq_true hc.2; simpa using this
        simp only [Instr.fill, hp]
        rw [if_neg (by simp; omega)]
        have h3 : (v.cells.zipIdx.foldl (fun cs (c, j) => cs.setIfInBounds (off + j) c) cells.toArray) = (cells.take off ++ v.cells.toList ++ cells.drop (off + v.cells.toList.length)).toArray := by
          have := fold_fill v.cells.toList 0 off cells (by simp; omega)
          rw [← Array.foldl_toList]
          simpa using this
        rw [h3]
        exact fill_fillL place rest _ r h
      · cases h
def Env.parts (e : Env) : List (Nat × Operand) → Option (List (Nat × Value))
  | [] => some []
  | (i, x) :: r => match Env.val e x with
    | none => none
    | some v => match Env.parts e r with
      | none => none
      | some vs => some ((i, v) :: vs)
theorem Agree.parts {a : Act} (h : Agree N e a) : ∀ {ps : List (Nat × Operand)} {vs : List (Nat × Value)}, Env.parts e ps = some vs → ps.map (fun p => (p.1, a.eval p.2)) = vs
  | [], vs, hx => by simp [Env.parts] at hx; simp [hx]
  | (i, x) :: ps, vs, hx => by
    simp only [Env.parts] at hx
    cases h1 : Env.val e x with
    | none => simp [h1] at hx
    | some v =>
      cases h2 : Env.parts e ps with
      | none => simp [h1, h2] at hx
      | some us =>
        simp [h1, h2] at hx
        subst hx
        simp [h.val h1, h.parts h2]
def bslZ (z : List Value) (n : Nat) : Array Value := (Array.range n).map (fun i => z.toArray[i % z.toArray.size]!)
/-- A literal of a slice. -/
theorem d_bsl {E : TypeId} {sz ln : Nat} {z : List Value} {ps : List (Nat × Operand)} {vs : List (Nat × Value)} {cells : Array Value} (hp : Env.parts e ps = some vs) (hsm : Nat.ble (ln * sz) 16777216 = true) (hz : ln * sz ≠ 0 ∨ ln = 0)
    (hf : Instr.fill (fun i => some (i * sz, sz)) (bslZ z (ln * sz)) vs = some cells) (h : Sat S w G) :
    Does P N (.bsl E sz ln z ps) e w (fun v w' => ∃ b, v = .slice (some ⟨b, 0, none⟩) ln ln ∧ Sat S w' (pt b (.cells cells E (0, 0)) :: G)) := by
  intro op a hco hA next Q' hn
  obtain ⟨t, parts, hop, he, hs, hzz, rfl⟩ := co_bsl hco
  have hpv := hA.parts hp
  have hpa : (parts.map (fun p => (p.1, a.eval p.2))).toList = vs := by rw [Array.toList_map]; exact hpv
  obtain ⟨i, hi, zv, hzv, hzc⟩ : ∃ i, P.info? E = some i ∧ ∃ zv, i.zero = some zv ∧ zv.cells.toList = z := by
    unfold zeroAt at hzz
    cases hi : P.info? E with
    | none => simp [hi] at hzz
    | some i =>
      rw [hi] at hzz
      simp at hzz
      split at hzz
      · rename_i zv hzv; simp at hzz; exact ⟨i, rfl, zv, hzv, hzz⟩
      · simp at hzz
  have hzs : zv.cells = z.toArray := by rw [← hzc]
  have hsm' : ¬ ln * sz > 2 ^ 24 := by
    have := Nat.le_of_ble_eq_true hsm
    simpa using this
  have hrun : (Instr.buildSlice t ln (parts.map (fun p => (p.1, a.eval p.2)))).run P w = .ok (.slice (some ⟨w.heap.size, 0, none⟩) ln ln) (w.alloc (.cells cells E (0, 0))) := by
    unfold Instr.buildSlice
    simp only [Sem.run_bind, run_underlying (elem_und he), Result.andThen, size_run hs, hpa, if_neg hsm']
    by_cases h0 : ln * sz = 0
    · have hl0 : ln = 0 := by
        rcases hz with h' | h'
        · exact absurd h0 h'
        · exact h'
      subst hl0
      have hr0 : Array.range 0 = #[] := by apply Array.ext <;> simp
      have hf' := hf
      unfold bslZ at hf'
      simp only [Nat.zero_mul, hr0, Array.map_empty] at hf'
      simp only [Nat.zero_mul, if_true, hr0, Array.map_empty, hf']
      simp [newRow]
    · have hf' := hf
      unfold bslZ at hf'
      rw [if_neg h0]
      simp only [Sem.run_bind, zeroValue, typeInfo, run_program, Result.andThen, hi, Sem.run_pure, hzv, hzs, hf']
      simp [newRow]
  have : (execOp a.eval op).run P w = .ok (.value (.slice (some ⟨w.heap.size, 0, none⟩) ln ln)) (w.alloc (.cells cells E (0, 0))) := by
    simp only [execOp, hop]
    simp only [Sem.run_bind, hrun, Result.andThen, Sem.run_pure]
  rw [this]
  exact hn _ _ ⟨_, rfl, h.alloc _⟩
theorem p_lit {E : TypeId} {sz ln : Nat} {z : List Value} {ps : List (Nat × Operand)} {vs : List (Nat × Value)} {dst : Option Nat} {g : Option (Nat × Bool)} (cs : List Value) (hg : wantedE e g = some true) (hp : Env.parts e ps = some vs) (hsm : Nat.ble (ln * sz) 16777216 = true) (hz : (Nat.beq z.length sz && Nat.blt 0 sz) = true)
    (hf : fillL (fun i => some (i * sz, sz)) (zerosA z ln) vs = some cs) (hl : Nat.beq cs.length (ln * sz) = true) (h : Sat S w G)
    (hn : ∀ v w', Sat S w' (ownS E sz v cs :: G) → XOps P fn N l k (Env.put e dst v) w' Q) : XOps P fn N (⟨dst, g, .bsl E sz ln z ps⟩ :: l) k e w Q := by
  simp only [Bool.and_eq_true, Nat.blt_eq] at hz
  have hzl : z.length = sz := Nat.eq_of_beq_eq_true hz.1
  have hln : ln ≤ 16777216 := by
    have := Nat.le_of_ble_eq_true hsm
    exact Nat.le_trans (Nat.le_mul_of_pos_right _ hz.2) this
  have hz' : ln * sz ≠ 0 ∨ ln = 0 := by
    rcases Nat.eq_zero_or_pos ln with h0 | h0
    · exact .inr h0
    · exact .inl (fun h1 => by rcases Nat.mul_eq_zero.1 h1 with h2 | h2 <;> omega)
  have hzz : bslZ z (ln * sz) = (zerosA z ln).toArray := by
    unfold bslZ
    rw [← hzl]
    exact mks_zeros z ln (fun h0 => by rw [h0] at hzl; simp at hzl; omega)
  have hf := fill_fillL _ vs _ _ hf
  rw [← hzz] at hf
  have hlen : cs.length = ln * sz := Nat.eq_of_beq_eq_true hl
  refine p_do hg (d_bsl hp hsm hz' hf h) ?_
  rintro _ w' ⟨b, rfl, h'⟩
  refine hn _ _ (ownS_shut (spare := []) ?_ hlen (Nat.le_refl _) ?_ (by simp))
  · rw [List.append_nil]; exact h'
  · unfold maxLen
    omega
/-- append, what is appended being a row that is read. -/
theorem p_app {E : TypeId} {n by' : Nat} {z : List Value} {s : Operand} {v vx : Value} {cs news : List Value} {dst : Option Nat} {g : Option (Nat × Bool)} (hg : wantedE e g = some true) (hs : Env.val e s = some v) (hx : Env.val e x = some vx) (hz : z.length = n) (hn0 : 0 < n)
    (h : Sat S w (ownS E n v cs :: G)) (hr : RdS w n vx news) (h1 : ∀ u ∈ news, u.oneCell' = true)
    (hsz : (cs.length + news.length) * by' ≤ 140737488355328 * n) (h63 : cs.length + news.length ≤ 9223372036854775807)
    (hn : ∀ v' w', Sat S w' (ownS E n v' (cs ++ news) :: G) → XOps P fn N l k (Env.put e dst v') w' Q) : XOps P fn N (⟨dst, g, .app E n by' z s x⟩ :: l) k e w Q := by
  obtain ⟨a, len, cap, rfl, h2, h3, h4⟩ := hr
  exact p_do hg (d_app hs hx hz hn0 h h3 h4 h1 hsz h63) hn
/-- A literal of a struct. -/
def Env.parts3 (e : Env) : List (Nat × Nat × Operand) → Option (List (Nat × Nat × Value))
  | [] => some []
  | (o, s, x) :: r => match Env.val e x with
    | none => none
    | some v => match Env.parts3 e r with
      | none => none
      | some vs => some ((o, s, v) :: vs)
def fill3L (cells : List Value) : List (Nat × Nat × Value) → Option (List Value)
  | [] => some cells
  | (off, size, v) :: rest => match Nat.beq v.cells.toList.length size && Nat.ble (off + v.cells.toList.length) cells.length with
    | true => fill3L (cells.take off ++ v.cells.toList ++ cells.drop (off + v.cells.toList.length)) rest
    | false => none
def fill3 (cells : Array Value) : List (Nat × Nat × Value) → Option (Array Value)
  | [] => some cells
  | (off, size, v) :: rest =>
    if v.cells.size ≠ size || off + v.cells.size > cells.size then none
    else fill3 (v.cells.zipIdx.foldl (fun cs (c, j) => cs.setIfInBounds (off + j) c) cells) rest
theorem fill_fill3 {pl : List (Nat × Nat)} {a : Act} (hA : Agree N e a) : ∀ {ps : List (Nat × Operand)} {l : List (Nat × Nat × Operand)} {vs : List (Nat × Nat × Value)}, partsAt pl ps = some l → Env.parts3 e l = some vs → ∀ cells, Instr.fill (fun i => pl.toArray[i]?) cells (ps.map (fun p => (p.1, a.eval p.2))) = fill3 cells vs
  | [], l, vs, h1, h2, cells => by
    simp [partsAt] at h1; subst h1
    simp [Env.parts3] at h2; subst h2
    rfl
  | (i, x) :: ps, l, vs, h1, h2, cells => by
    simp only [partsAt] at h1
    split at h1
    · rename_i off s l' hp hl
      simp at h1
      subst h1
      simp only [Env.parts3] at h2
      cases hx : Env.val e x with
      | none => simp [hx] at h2
      | some v =>
        cases hr : Env.parts3 e l' with
        | none => simp [hx, hr] at h2
        | some us =>
          simp [hx, hr] at h2
          subst h2
          have hq : (pl.toArray)[i]? = some (off, s) := by simpa using hp
          simp only [List.map_cons, Instr.fill, fill3, hq, hA.val hx]
          split
          · rfl
          · exact fill_fill3 hA hl hr _
    · simp at h1
theorem places_run (w : World) : ∀ {fs : List Field} {pl : List (Nat × Nat)}, placesAt P fs = some pl → (List.mapM (fun f : Field => (do pure (f.offset, ← sizeOf f.type) : Sem (Nat × Nat))) fs).run P w = .ok pl w
  | [], pl, h => by simp [placesAt] at h; subst h; simp
  | f :: fs, pl, h => by
    simp only [placesAt] at h
    split at h
    · rename_i s l hs hl
      simp at h
      subst h
      simp only [List.mapM_cons, Sem.run_bind, size_run hs, Result.andThen, Sem.run_pure, places_run w hl]
    · simp at h
theorem fill3_L : ∀ (vs : List (Nat × Nat × Value)) (cells : List Value) (r : List Value), fill3L cells vs = some r → fill3 cells.toArray vs = some r.toArray
  | [], cells, r, h => by simp [fill3L] at h; subst h; rfl
  | (off, size, v) :: rest, cells, r, h => by
    simp only [fill3L] at h
    split at h
    · rename_i hc
      simp only [Bool.and_eq_true] at hc
      have h1 : v.cells.size = size := by have := Nat.eq_of_beq_eq_true hc.1; simpa using this
      have h2 : off + v.cells.size ≤ cells.length := by have := Nat.le_of_ble_eq_true hc.2; simpa using this
      simp only [fill3]
      rw [if_neg (by simp; omega)]
      have h3 : (v.cells.zipIdx.foldl (fun cs (c, j) => cs.setIfInBounds (off + j) c) cells.toArray) = (cells.take off ++ v.cells.toList ++ cells.drop (off + v.cells.toList.length)).toArray := by
        have := fold_fill v.cells.toList 0 off cells (by simp; omega)
        rw [← Array.foldl_toList]
        simpa using this
      rw [h3]
      exact fill3_L rest _ r h
    · cases h
theorem g_bld {z : List Value} {ps : List (Nat × Nat × Operand)} {vs : List (Nat × Nat × Value)} {cells : List Value} (hp : Env.parts3 e ps = some vs) (hf3 : fill3L z vs = some cells) : Gives P N (.bld z ps) e w (.agg cells.toArray) := by
  have hf := fill3_L vs z cells hf3
  intro op a hco hA
  obtain ⟨t, parts, fs, pl, hop, hu, hzz, hpl, hps⟩ := co_bld hco
  obtain ⟨i, hi, zv, hzv, hzc⟩ : ∃ i, P.info? t = some i ∧ ∃ zv, i.zero = some zv ∧ zv.cells.toList = z := by
    unfold zeroAt at hzz
    cases hi : P.info? t with
    | none => simp [hi] at hzz
    | some i =>
      rw [hi] at hzz
      simp at hzz
      split at hzz
      · rename_i zv hzv; simp at hzz; exact ⟨i, rfl, zv, hzv, hzz⟩
      · simp at hzz
  have hzs : zv.cells = z.toArray := by rw [← hzc]
  have hfill := fill_fill3 hA hps hp z.toArray
  rw [hf] at hfill
  have hpa : (parts.map (fun p => (p.1, a.eval p.2))).toList = parts.toList.map (fun p => (p.1, a.eval p.2)) := Array.toList_map
  have hfs : fs.mapM (fun f : Field => (do pure (f.offset, ← sizeOf f.type) : Sem (Nat × Nat))) = List.toArray <$> List.mapM (fun f : Field => (do pure (f.offset, ← sizeOf f.type) : Sem (Nat × Nat))) fs.toList := by
    conv => lhs; rw [← Array.toArray_toList (xs := fs)]
    rw [List.mapM_toArray]
  have hrun : (Instr.build t (parts.map (fun p => (p.1, a.eval p.2)))).run P w = .ok (.agg cells.toArray) w := by
    unfold Instr.build
    simp only [Sem.run_bind, zeroValue, typeInfo, run_program, Result.andThen, hi, Sem.run_pure, hzv, hzs, run_underlying hu, hfs, Sem.run_map, places_run w hpl, hpa, hfill]
  simp only [execOp, hop]
  simp only [Sem.run_bind, hrun, Result.andThen, Sem.run_pure]

/-! ### functions without a body: atomic words -/
structure ExtIs (P : Program) (f : FuncId) (fn : Func) (e : Array Value → Sem Value) : Prop where
  func : P.funcs[f]? = some fn
  name : (fn.name == "runtime.NumGoroutine") = false
  body : fn.body.isNone = true
  next : Extern.findNext fn = none
  find : Extern.find fn = some e
theorem ext_run {f : FuncId} {args : List Operand} {vs : List Value} {a : Act} {op : Oper} {r : Result Next} (hco : co P op = some (.ext1 f args)) (hA : Agree N e a) (ha : Env.vals e args = some vs) (hr : (callFunc f vs.toArray).run P w = r) : (execOp a.eval op).run P w = r := by
  obtain ⟨as, ts, hop, h1⟩ := co_ext1 hco
  have hargs : as.map a.eval = vs.toArray := by
    have h2 := hA.vals ha
    rw [← h1] at h2
    apply Array.toList_inj.1
    rw [Array.toList_map]
    exact h2
  have hev : a.eval (.func f) = .func (.func f) #[] #[] := rfl
  simp [execOp, hop, resolve, hargs, hev, Deferred.ofValue, invoke, hr]
theorem g_aload {f : FuncId} {F : Func} {args : List Operand} {kd : IntKind} {ad : Addr} {z : Int} (hf : ExtIs P f F (Extern.Atomic.loadT (.int kd))) (ha : Env.vals e args = some [.pointer (some ad)]) (hc : w.cell? ad = some (.int kd z)) :
    Gives P N (.ext1 f args) e w (.int kd z) :=
  fun _ _ hco hA => ext_run hco hA ha (run_call_load hf.func hf.name hf.body hf.next kd hf.find hc)
theorem d_astore {f : FuncId} {F : Func} {args : List Operand} {kd : IntKind} {b o : Nat} {c : Array Value} {E : TypeId} {z : Int} (hf : ExtIs P f F Extern.Atomic.storeT) (ha : Env.vals e args = some [.pointer (some ⟨b, o, none⟩), .int kd z])
    (h : Sat S w (pt b (.cells c E (0, 0)) :: G)) (ho : o < c.size) :
    Does P N (.ext1 f args) e w (fun v' w' => v' = .tuple #[] ∧ Sat S w' (pt b (.cells (c.setIfInBounds o (.int kd z)) E (0, 0)) :: G)) := by
  intro op a hco hA next Q' hn
  have hcell := cell_of_heap (o := o) h.block (Array.getElem?_eq_getElem ho)
  rw [ext_run hco hA ha (run_call_store hf.func hf.name hf.body hf.next hf.find hcell (frozen_free h.block))]
  exact hn _ _ ⟨rfl, h.setCell _⟩
theorem d_acas {f : FuncId} {F : Func} {args : List Operand} {kd : IntKind} {b o : Nat} {c : Array Value} {E : TypeId} {cur old new : Int} (hf : ExtIs P f F (Extern.Atomic.casT (.int kd))) (ha : Env.vals e args = some [.pointer (some ⟨b, o, none⟩), .int kd old, .int kd new])
    (h : Sat S w (pt b (.cells c E (0, 0)) :: G)) (hc : c[o]? = some (.int kd cur)) :
    Does P N (.ext1 f args) e w (fun v' w' => (v' = .bool true ∧ cur = old ∧ Sat S w' (pt b (.cells (c.setIfInBounds o (.int kd new)) E (0, 0)) :: G)) ∨ (v' = .bool false ∧ cur ≠ old ∧ Sat S w' (pt b (.cells c E (0, 0)) :: G))) := by
  intro op a hco hA next Q' hn
  have hcell := cell_of_heap h.block hc
  by_cases he : cur = old
  · subst he
    rw [ext_run hco hA ha (run_call_cas_hit hf.func hf.name hf.body hf.next kd hf.find hcell (frozen_free h.block))]
    exact hn _ _ (.inl ⟨rfl, rfl, h.setCell _⟩)
  · rw [ext_run hco hA ha (run_call_cas_miss hf.func hf.name hf.body hf.next kd hf.find hcell (frozen_free h.block) he)]
    exact hn _ _ (.inr ⟨rfl, he, h⟩)
theorem d_aadd {f : FuncId} {F : Func} {args : List Operand} {kd : IntKind} {b o : Nat} {c : Array Value} {E : TypeId} {cur y : Int} (hf : ExtIs P f F (Extern.Atomic.update (Op.intArith .add) kd true)) (ha : Env.vals e args = some [.pointer (some ⟨b, o, none⟩), .int kd y])
    (h : Sat S w (pt b (.cells c E (0, 0)) :: G)) (hc : c[o]? = some (.int kd cur)) :
    Does P N (.ext1 f args) e w (fun v' w' => v' = .int kd (kd.wrap (cur + y)) ∧ Sat S w' (pt b (.cells (c.setIfInBounds o (.int kd (kd.wrap (cur + y)))) E (0, 0)) :: G)) := by
  intro op a hco hA next Q' hn
  have hcell := cell_of_heap h.block hc
  rw [ext_run hco hA ha (run_call_add hf.func hf.name hf.body hf.next kd hf.find hcell (frozen_free h.block) (s := kd.wrap (cur + y)) (by simp [Op.intArith]))]
  exact hn _ _ ⟨rfl, h.setCell _⟩
end
theorem wf_u64 {a : Int} (h : (Lit.int .u64 a).wf = true) : 0 ≤ a ∧ a ≤ 18446744073709551615 := by
  have := h
  simp [Lit.wf, IntKind.min, IntKind.max, IntKind.signed, IntKind.bits] at this
  omega
theorem wf_i64 {a : Int} (h : (Lit.int .i64 a).wf = true) : -9223372036854775808 ≤ a ∧ a ≤ 9223372036854775807 := by
  have := h
  simp [Lit.wf, IntKind.min, IntKind.max, IntKind.signed, IntKind.bits] at this
  omega
theorem wf_u8 {a : Int} (h : (Lit.int .u8 a).wf = true) : 0 ≤ a ∧ a ≤ 255 := by
  have := h
  simp [Lit.wf, IntKind.min, IntKind.max, IntKind.signed, IntKind.bits] at this
  omega
/-- An argument: a slice of whole numbers, as it was read. -/
def ArgInts (k : IntKind) (w : World) (a : Option Addr) (len cap : Nat) (zs : List Int) : Prop :=
  (a = none ∧ len = 0 ∧ cap = 0 ∧ zs = []) ∨
  ∃ x, a = some x ∧ len ≤ cap ∧ cap ≤ maxLen ∧ zs.length = cap ∧ (∀ i, i < zs.length → w.cell? (x.add i) = some (.int k (zs.getD i 0))) ∧ ∀ n ∈ zs, (Lit.int k n).wf = true
end Go.HX
