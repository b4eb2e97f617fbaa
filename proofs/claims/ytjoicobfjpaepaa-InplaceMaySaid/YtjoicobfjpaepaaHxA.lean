/- HX, part A: a small machine for walking code: environments, a resolved form of code, its rules. -/
import Derived.WalkKit
import Derived.Orders
namespace Go.HX
open Go

/-! ### environments -/
abbrev Env := List (Nat × Value)
def Env.get : Env → Nat → Option Value
  | [], _ => none
  | (k, v) :: r, t => match Nat.beq k t with
    | true => some v
    | false => Env.get r t
def Env.val (e : Env) : Operand → Option Value
  | .tmp t => Env.get e t
  | .const v => some v
  | .global g => some (.pointer (some ⟨g, 0, none⟩))
  | .func f => some (.func (.func f) #[] #[])
def Env.put (e : Env) : Option Nat → Value → Env
  | some d, v => (d, v) :: e
  | none, _ => e
def Env.vals (e : Env) : List Operand → Option (List Value)
  | [] => some []
  | x :: xs => match Env.val e x with
    | none => none
    | some v => match Env.vals e xs with
      | none => none
      | some vs => some (v :: vs)
def Env.keep (e : Env) : List Nat → Option Env
  | [] => some []
  | t :: ts => match Env.get e t with
    | none => none
    | some v => match Env.keep e ts with
      | none => none
      | some r => some ((t, v) :: r)

structure Agree (N : Nat) (e : Env) (a : Act) : Prop where
  size : a.tmps.size = N
  defers : a.defers = []
  get : ∀ t v, Env.get e t = some v → a.tmps[t]? = some v

theorem Agree.val {N : Nat} {e : Env} {a : Act} (h : Agree N e a) {x : Operand} {v : Value} (hx : Env.val e x = some v) : a.eval x = v := by
  cases x with
  | tmp t =>
    have := h.get t v hx
    simp [Act.eval, Array.getD_eq_getD_getElem?, this]
  | const u => simpa [Env.val, Act.eval] using hx
  | global g => simpa [Env.val, Act.eval] using hx
  | func f => simpa [Env.val, Act.eval] using hx

theorem Agree.vals {N : Nat} {e : Env} {a : Act} (h : Agree N e a) : ∀ {xs : List Operand} {vs : List Value}, Env.vals e xs = some vs → xs.map a.eval = vs
  | [], vs, hx => by simp [Env.vals] at hx; simp [hx]
  | x :: xs, vs, hx => by
    simp only [Env.vals] at hx
    cases h1 : Env.val e x with
    | none => simp [h1] at hx
    | some v =>
      cases h2 : Env.vals e xs with
      | none => simp [h1, h2] at hx
      | some us =>
        simp [h1, h2] at hx
        subst hx
        simp [h.val h1, h.vals h2]

theorem Env.get_cons (k : Nat) (v : Value) (r : Env) (t : Nat) : Env.get ((k, v) :: r) t = if k = t then some v else Env.get r t := by
  simp only [Env.get]
  by_cases h : k = t
  · subst h; simp
  · rw [if_neg h]
    have : Nat.beq k t = false := by
      cases hb : Nat.beq k t
      · rfl
      · exact absurd (Nat.eq_of_beq_eq_true hb) h
    rw [this]

theorem Agree.put {N : Nat} {e : Env} {a : Act} (h : Agree N e a) {dst : Option Nat} (hd : ∀ d, dst = some d → d < N) (v : Value) :
    Agree N (Env.put e dst v) (a.put dst v) := by
  cases dst with
  | none => exact h
  | some d =>
    have hd' := hd d rfl
    refine ⟨by simp [Act.put, h.size], by simp [Act.put, h.defers], fun t u hu => ?_⟩
    simp only [Env.put, Env.get_cons] at hu
    by_cases hdt : d = t
    · subst hdt
      simp at hu
      subst hu
      simp [Act.put, h.size, hd']
    · rw [if_neg hdt] at hu
      simp [Act.put, Array.getElem?_setIfInBounds_ne hdt, h.get t u hu]

theorem Env.keep_get {e : Env} : ∀ {ts : List Nat} {e' : Env}, Env.keep e ts = some e' → ∀ t v, Env.get e' t = some v → Env.get e t = some v
  | [], e', h, t, v, hg => by simp [Env.keep] at h; subst h; simp [Env.get] at hg
  | s :: ts, e', h, t, v, hg => by
    simp only [Env.keep] at h
    cases h1 : Env.get e s with
    | none => simp [h1] at h
    | some u =>
      cases h2 : Env.keep e ts with
      | none => simp [h1, h2] at h
      | some r =>
        simp [h1, h2] at h
        subst h
        rw [Env.get_cons] at hg
        by_cases hst : s = t
        · subst hst; simp at hg; subst hg; exact h1
        · rw [if_neg hst] at hg; exact Env.keep_get h2 t v hg

theorem Agree.keep {N : Nat} {e e' : Env} {a : Act} (h : Agree N e a) {ts : List Nat} (hk : Env.keep e ts = some e') : Agree N e' a :=
  ⟨h.size, h.defers, fun t v hv => h.get t v (Env.keep_get hk t v hv)⟩

/-! ### the resolved form of an operation -/
/-- How two values of a type are compared: bools, pointers, slices (one of them nil), structs of numbers, bools and strings (their cells). -/
inductive EqC where
  | bool
  | ptr
  | slice
  | agg (n : Nat) (cells : List (Nat × Nat))

/-- More operations: functions as values, arrays, maps. -/
inductive XM where
  | mkf (f : FuncId) (first captured : List Operand)
  | cv (x : Operand) (args : List Operand)
  | bla (zero : List Value) (size : Nat) (parts : List (Nat × Operand))
  | mkm
  | lkp (k : TypeId) (zero : Value) (ok : Bool) (x i : Operand)
  | mup (k : TypeId) (x i v : Operand)
  | ment (k : TypeId) (zero : Value) (x i : Operand)
  | est (x i v : Operand)
  | del (k : TypeId) (x i : Operand)
  | clrm (x : Operand)
  | lenM (x : Operand)
  | rng (x : Operand)
  | nxt (it : Operand)
  | ixa (n size : Nat) (agg : Option Nat) (x i : Operand)

inductive XO where
  | mv (x : Operand)
  | pick (c a b : Operand)
  | nilc (x : Operand)
  | fld (x : Operand) (off : Nat)
  | idx (x i : Operand) (size : Nat)
  | ixp (x i : Operand) (len size : Nat)
  | part (x : Operand) (off : Nat) (agg : Option Nat)
  | ixs (x i : Operand)
  | ixa (x i : Operand) (len size : Nat) (agg : Bool)
  | ext (x : Operand) (i : Nat)
  | un (op : UnOp) (x : Operand)
  | bin (op : BinOp) (t : TypeId) (x y : Operand)
  | eq (neg : Bool) (c : EqC) (x y : Operand)
  | conv (k : IntKind) (x : Operand)
  | same (x : Operand)
  | s2b (t : TypeId) (x : Operand)
  | b2s (x : Operand)
  | ld (x : Operand) (agg : Option Nat)
  | st (x v : Operand) (n : Nat)
  | new (t : TypeId) (z : Value)
  | box (t : TypeId) (x : Operand)
  | bld (zero : List Value) (parts : List (Nat × Nat × Operand))
  | bsl (t : TypeId) (size len : Nat) (zero : List Value) (parts : List (Nat × Operand))
  | mks (t : TypeId) (size bytes : Nat) (zero : List Value) (len cap : Operand)
  | slc (size : Nat) (x : Operand) (lo hi : Option Operand)
  | sls (x : Operand) (lo hi : Option Operand)
  | call (f : FuncId) (args : List Operand)
  | ext1 (f : FuncId) (args : List Operand)
  | lenS (x : Operand)
  | lenB (x : Operand)
  | mnx (mx : Bool) (x : Operand) (xs : List Operand)
  | app (t : TypeId) (size bytes : Nat) (zero : List Value) (s x : Operand)
  | cpy (size : Nat) (d s : Operand)
  | mki (t : TypeId) (x : Operand)
  | more (m : XM)

structure XOp where
  dst : Option Nat
  guard : Option (Nat × Bool)
  op : XO

def aggOf (P : Program) (t : TypeId) : Option (Option Nat) :=
  match P.underlying t, P.info? t with
  | some (.struct _), some i => some (some i.size)
  | some (.array _ _), some i => some (some i.size)
  | some _, some _ => some none
  | _, _ => none

def sizeAt (P : Program) (t : TypeId) : Option Nat := (P.info? t).map (·.size)
def bytesAt (P : Program) (t : TypeId) : Option Nat := (P.info? t).map (·.bytes)
def zeroAt (P : Program) (t : TypeId) : Option (List Value) := match P.info? t with
  | some i => match i.zero with
    | some z => some z.cells.toList
    | none => none
  | none => none
def elemAt' (P : Program) (t : TypeId) : Option TypeId := match P.underlying t with
  | some (.slice e) => some e
  | _ => none
def isString (P : Program) (t : TypeId) : Bool := match P.underlying t with
  | some .string => true
  | _ => false
def intKindOf (P : Program) (t : TypeId) : Option IntKind := match P.underlying t with
  | some (.int k) => some k
  | _ => none

def fldAt (P : Program) (t : TypeId) (i : Nat) : Option (Nat × TypeId) := match P.underlying t with
  | some (.struct fs) => match fs[i]? with
    | some f => some (f.offset, f.type)
    | none => none
  | _ => none

/-- places of a struct's parts: offset and size -/
def placesAt (P : Program) : List Field → Option (List (Nat × Nat))
  | [] => some []
  | f :: fs => match sizeAt P f.type, placesAt P fs with
    | some s, some l => some ((f.offset, s) :: l)
    | _, _ => none
def partsAt (pl : List (Nat × Nat)) : List (Nat × Operand) → Option (List (Nat × Nat × Operand))
  | [] => some []
  | (i, x) :: r => match pl[i]?, partsAt pl r with
    | some (off, s), some l => some ((off, s, x) :: l)
    | _, _ => none

/-- The cells of a struct of numbers, bools, strings, and of structs of such. -/
def primFields (go : Nat → TypeId → Option (List (Nat × Nat))) (sz : TypeId → Option Nat) (off n : Nat) : List Field → Option (List (Nat × Nat))
  | [] => some []
  | f :: fs => match decide (f.name = "_"), sz f.type with
    | false, some s => match Nat.ble (f.offset + s) n && Nat.blt 0 s, go (off + f.offset) f.type, primFields go sz off n fs with
      | true, some a, some b => some (a ++ b)
      | _, _, _ => none
    | _, _ => none
def primCells (P : Program) : Nat → Nat → TypeId → Option (List (Nat × Nat))
  | 0, _, _ => none
  | d + 1, off, t => match P.underlying t with
    | some (.int _) => some [(off, 0)]
    | some .bool => some [(off, 1)]
    | some .string => some [(off, 2)]
    | some (.struct fs) => match P.stoodInHeld t, sizeAt P t with
      | false, some n => primFields (primCells P d) (sizeAt P) off n fs.toList
      | _, _ => none
    | _ => none

def eqClass (P : Program) (t : TypeId) : Option EqC := match P.underlying t with
  | some .bool => some .bool
  | some (.pointer e) => match sizeAt P e with
    | some 0 => none
    | some _ => some .ptr
    | none => none
  | some (.slice _) => some .slice
  | some (.struct _) => match P.eqGuardType P.depth t, sizeAt P t, primCells P 5 0 t with
    | false, some n, some l => some (.agg n l)
    | _, _, _ => none
  | _ => none

def co1 (P : Program) (o : Oper) : Option XO :=
  match o.op with
  | .move x => some (.mv x)
  | .assign x => some (.mv x)
  | .pick c a b => some (.pick c a b)
  | .nilCheck x => some (.nilc x)
  | .fieldAddr t x i => match fldAt P t i with
    | some (off, ft) => match sizeAt P ft with
      | some 0 => none
      | some _ => some (.fld x off)
      | none => none
    | none => none
  | .indexAddr t x i => match elemAt' P t with
    | some e => match sizeAt P e with
      | some s => some (.idx x i s)
      | none => none
    | none => match P.underlying t with
      | some (.array n e) => match sizeAt P e with
        | some s => some (.ixp x i n s)
        | none => none
      | _ => none
  | .field t x i => match fldAt P t i with
    | some (off, ft) => match aggOf P ft with
      | some g => some (.part x off g)
      | none => none
    | none => none
  | .index t x i => match isString P t with
    | true => some (.ixs x i)
    | false => none
  | .extract x i => some (.ext x i)
  | .unOp op _ x => some (.un op x)
  | .binOp op t x y _ => match op, eqClass P t with
    | .eql, some c => some (.eq false c x y)
    | .neq, some c => some (.eq true c x y)
    | _, _ => some (.bin op t x y)
  | .convert s d x => match intKindOf P s, intKindOf P d with
    | some _, some k => some (.conv k x)
    | _, _ => match isString P s, isString P d with
      | true, true => some (.same x)
      | true, false => match elemAt' P d with
        | some e => match intKindOf P e with
          | some .u8 => some (.s2b e x)
          | _ => none
        | none => none
      | false, true => match elemAt' P s with
        | some e => match intKindOf P e with
          | some .u8 => some (.b2s x)
          | _ => none
        | none => none
      | false, false => none
  | .load t x => match aggOf P t with
    | some g => some (.ld x g)
    | none => none
  | .store t x v => match sizeAt P t with
    | some n => some (.st x v n)
    | none => none
  | .alloc t => match P.info? t with
    | some i => match i.zero with
      | some z => some (.new t z)
      | none => none
    | none => none
  | .box t x => some (.box t x)
  | .build t parts => match P.underlying t with
    | some (.struct fs) => match zeroAt P t, placesAt P fs.toList with
      | some z, some pl => match partsAt pl parts.toList with
        | some l => some (.bld z l)
        | none => none
      | _, _ => none
    | _ => none
  | .buildSlice t len parts => match elemAt' P t with
    | some e => match sizeAt P e, zeroAt P e with
      | some s, some z => some (.bsl e s len z parts.toList)
      | _, _ => none
    | none => none
  | .makeSlice t l c => match elemAt' P t with
    | some e => match sizeAt P e, bytesAt P e, zeroAt P e with
      | some s, some b, some z => some (.mks e s b z l c)
      | _, _, _ => none
    | none => none
  | .slice t x lo hi none => match isString P t with
    | true => some (.sls x lo hi)
    | false => match elemAt' P t with
      | some e => match sizeAt P e with
        | some s => some (.slc s x lo hi)
        | none => none
      | none => none
  | .call { callee := .value (.func f), args, .. } => match P.funcs[f]? with
    | some fn => match fn.body, fn.name == "runtime.NumGoroutine" with
      | some _, false => some (.call f args.toList)
      | none, false => some (.ext1 f args.toList)
      | _, _ => none
    | none => none
  | .call { callee := .builtin .len, args, argTypes } => match args.toList, argTypes.toList with
    | [x], [t] => match isString P t, elemAt' P t with
      | true, _ => some (.lenB x)
      | false, some _ => some (.lenS x)
      | _, _ => none
    | _, _ => none
  | .call { callee := .builtin .max, args, .. } => match args.toList with
    | x :: xs => some (.mnx true x xs)
    | [] => none
  | .call { callee := .builtin .min, args, .. } => match args.toList with
    | x :: xs => some (.mnx false x xs)
    | [] => none
  | .call { callee := .builtin .append, args, argTypes } => match args.toList, argTypes.toList with
    | [s, x], [t, t'] => match Nat.beq t t', elemAt' P t with
      | true, some e => match sizeAt P e, bytesAt P e, zeroAt P e with
        | some sz, some b, some z => some (.app e sz b z s x)
        | _, _, _ => none
      | _, _ => none
    | _, _ => none
  | .call { callee := .builtin .copy, args, argTypes } => match args.toList, argTypes.toList with
    | [d, s], t :: _ => match elemAt' P t with
      | some e => match sizeAt P e with
        | some sz => some (.cpy sz d s)
        | none => none
      | none => none
    | _, _ => none
  | _ => none

def mapAt (P : Program) (t : TypeId) : Option (TypeId × TypeId) := match P.underlying t with
  | some (.map k e) => some (k, e)
  | _ => none
def zeroV (P : Program) (t : TypeId) : Option Value := match P.info? t with
  | some i => i.zero
  | none => none
def co2 (P : Program) (o : Oper) : Option XM :=
  match o.op with
  | .makeFunc (.func f) first captured => some (.mkf f first.toList captured.toList)
  | .call { callee := .value (.tmp t), args, .. } => some (.cv (.tmp t) args.toList)
  | .build t parts => match P.underlying t with
    | some (.array _ el) => match zeroAt P t, sizeAt P el with
      | some z, some s => some (.bla z s parts.toList)
      | _, _ => none
    | _ => none
  | .makeMap _ none => some .mkm
  | .lookup t x i ok => match mapAt P t with
    | some (k, el) => match zeroV P el with
      | some z => some (.lkp k z ok x i)
      | none => none
    | none => none
  | .mapUpdate t x i v => match mapAt P t with
    | some (k, _) => some (.mup k x i v)
    | none => none
  | .insert t x i v => match mapAt P t with
    | some (k, _) => some (.mup k x i v)
    | none => none
  | .mapEntry t x i => match mapAt P t with
    | some (k, el) => match zeroV P el with
      | some z => some (.ment k z x i)
      | none => none
    | none => none
  | .entryStore _ x i v => some (.est x i v)
  | .call { callee := .builtin .delete, args, argTypes } => match args.toList, argTypes.toList with
    | [x, i], t :: _ => match mapAt P t with
      | some (k, _) => some (.del k x i)
      | none => none
    | _, _ => none
  | .call { callee := .builtin .clear, args, argTypes } => match args.toList, argTypes.toList with
    | [x], [t] => match mapAt P t with
      | some _ => some (.clrm x)
      | none => none
    | _, _ => none
  | .call { callee := .builtin .len, args, argTypes } => match args.toList, argTypes.toList with
    | [x], [t] => match mapAt P t with
      | some _ => some (.lenM x)
      | none => none
    | _, _ => none
  | .range t x => match mapAt P t with
    | some _ => some (.rng x)
    | none => none
  | .next it false => some (.nxt it)
  | .index t x i => match P.underlying t with
    | some (.array n el) => match sizeAt P el, aggOf P el with
      | some s, some g => some (.ixa n s g x i)
      | _, _ => none
    | _ => none
  | _ => none
def co (P : Program) (o : Oper) : Option XO := match co1 P o with
  | some x => some x
  | none => match co2 P o with
    | some m => some (.more m)
    | none => none

def cop (P : Program) (N : Nat) (ops : Array Oper) (o : Oper) : Option XOp :=
  match co P o with
  | none => none
  | some x => match (match o.dst with | some d => Nat.blt d N | none => true) with
    | false => none
    | true => match o.guard with
      | none => some ⟨o.dst, none, x⟩
      | some (j, want) => match (ops[j]?).bind (·.dst) with
        | some g => some ⟨o.dst, some (g, want), x⟩
        | none => none

def copL (P : Program) (N : Nat) (ops : Array Oper) : List Oper → Option (List XOp)
  | [] => some []
  | o :: os => match cop P N ops o with
    | none => none
    | some x => match copL P N ops os with
      | none => none
      | some xs => some (x :: xs)

/-- Of each operation of a region the ones that it waits for, directly (what binds in every mode). -/
def edgesOf (o : Oper) : List Nat := (o.after.toList.filter (fun e => Region.binds .any e)).map (·.on)
def bitsOf (acc : List Nat) (e : List Nat) : Nat := e.foldl (fun s k => s ||| 2 ^ k ||| acc.getD k 0) 0
def befAcc : List Nat → List (List Nat) → List Nat
  | acc, [] => acc
  | acc, e :: es => befAcc (acc ++ [bitsOf acc e]) es
/-- Of each operation, as bits, all that it waits for. -/
def befAll (es : List (List Nat)) : List Nat := befAcc [] es
def befOf (B : List Nat) (i j : Nat) : Bool := (B.getD j 0).testBit i
/-- Two operations of which none waits for the other touch different temporaries; all wait for earlier ones. -/
def apartOk (ops : Array Oper) : Bool :=
  let es := ops.toList.map edgesOf
  let B := befAll es
  (List.range ops.size).all fun i => (es.getD i []).all (fun k => Nat.blt k i) && (List.range ops.size).all fun j =>
    Nat.beq i j || (es.getD j []).contains i || befOf B j i || (match ops[i]?, ops[j]? with
      | some a, some b => a.apart ops b
      | _, _ => true)

/-- Does it change the world? (A list on the safe side.) -/
def isWX : XO → Bool
  | .mv _ | .pick _ _ _ | .nilc _ | .fld _ _ | .idx _ _ _ | .ixp _ _ _ _ | .part _ _ _ | .ixs _ _ | .ixa _ _ _ _ _ | .ext _ _ | .un _ _ | .bin _ _ _ _ | .eq _ _ _ _ | .conv _ _ | .same _ | .b2s _ | .ld _ _ | .bld _ _ | .slc _ _ _ _ | .sls _ _ _ | .lenS _ | .lenB _ | .mnx _ _ _ | .more (.mkf _ _ _) | .more (.bla _ _ _) | .more (.lkp _ _ _ _ _) | .more (.lenM _) | .more (.ixa _ _ _ _ _) => false
  | _ => true
def wsOf : Nat → List XOp → Nat
  | _, [] => 0
  | i, x :: xs => (match isWX x.op with | true => 2 ^ i | false => 0) ||| wsOf (i + 1) xs
/-- May an operation come up, when those of m have? -/
def rdyB (es : List (List Nat)) (m i : Nat) : Bool := !m.testBit i && Nat.blt i es.length && (es.getD i []).all (fun k => m.testBit k)
def rdyL (es : List (List Nat)) (m : Nat) : List Nat := (List.range es.length).filter (rdyB es m)
/-- An order: what changes nothing comes as soon as it may. -/
def canonGo (es : List (List Nat)) (ws : Nat) : Nat → Nat → List Nat
  | 0, _ => []
  | f + 1, m => match (rdyL es m).find? (fun i => !ws.testBit i) with
    | some i => i :: canonGo es ws f (m ||| 2 ^ i)
    | none => match rdyL es m with
      | i :: _ => i :: canonGo es ws f (m ||| 2 ^ i)
      | [] => []
def pickL (l : List XOp) : List Nat → Option (List (Nat × XOp))
  | [] => some []
  | i :: is => match l[i]?, pickL l is with
    | some x, some r => some ((i, x) :: r)
    | _, _ => none

/-! ### the resolved form of code -/
inductive X where
  | skip
  | ops (l : List XOp)
  | drawn (todo : List (Nat × XOp)) (es : List (List Nat)) (B : List Nat) (ws : Nat)
  | seq (a b : X)
  | cond (c : Operand) (a b : X)
  | block (id : Nat) (a : X)
  | loop (a : X)
  | exit (id : Nat)
  | ret

def cc (P : Program) (N : Nat) : Code → Option X
  | .skip => some .skip
  | .region _ ops false => match copL P N ops ops.toList with
    | some l => some (.ops l)
    | none => none
  | .region _ ops true => match copL P N ops ops.toList, apartOk ops && P.follows .mixedOrders with
    | some l, true =>
      let es := ops.toList.map edgesOf
      let ws := wsOf 0 l
      match pickL l (canonGo es ws es.length 0) with
      | some todo => some (.drawn todo es (befAll es) ws)
      | none => none
    | _, _ => none
  | .seq a b => match cc P N a, cc P N b with
    | some x, some y => some (.seq x y)
    | _, _ => none
  | .cond c a b => match cc P N a, cc P N b with
    | some x, some y => some (.cond c x y)
    | _, _ => none
  | .block id a => match cc P N a with
    | some x => some (.block id x)
    | none => none
  | .loop a => match cc P N a with
    | some x => some (.loop x)
    | none => none
  | .exit id => some (.exit id)
  | .ret => some .ret
  | _ => none

inductive XI where
  | code (x : X)
  | blk (id : Nat)
  | lp (x : X)

inductive Rel (P : Program) (N : Nat) : List XI → List Item → Prop
  | nil : Rel P N [] []
  | code {c : Code} {x : X} {k : List XI} {t : List Item} (h : cc P N c = some x) (r : Rel P N k t) : Rel P N (.code x :: k) (.code c :: t)
  | blk {id : Nat} {k : List XI} {t : List Item} (r : Rel P N k t) : Rel P N (.blk id :: k) (.inBlock id :: t)
  | lp {c : Code} {x : X} {k : List XI} {t : List Item} (h : cc P N c = some x) (r : Rel P N k t) : Rel P N (.lp x :: k) (.inLoop c :: t)

/-- The machine, from a list of items on, comes to R. -/
def Run (P : Program) (fn : FuncId) (todo : List Item) (a : Act) (w : World) (R : Ending → World → Prop) : Prop :=
  ∀ (b : Frame) (cs : List Frame), b.fn = fn → b.kind = .normal →
    ∃ e w' fr, R e w' ∧ Comes P (lone (b.at a todo) cs w) (lone fr cs w') e ∧ fr.fn = fn ∧ fr.leaving P w' e

def Rets (Q : Value → World → Prop) : Ending → World → Prop := fun en w => ∃ v, en = .returned v ∧ Q v w

def XRun (P : Program) (fn : FuncId) (N : Nat) (k : List XI) (e : Env) (w : World) (Q : Value → World → Prop) : Prop :=
  ∀ todo a, Rel P N k todo → Agree N e a → Run P fn todo a w (Rets Q)

/-- What a call comes to: it returns v, in world w, and Q v w. -/
def Ret (P : Program) (f : FuncId) (args : Array Value) (w : World) (Q : Value → World → Prop) : Prop := Calls P f args w (Rets Q)

theorem Ret.mono {P : Program} {f : FuncId} {args : Array Value} {w : World} {Q Q' : Value → World → Prop} (h : Ret P f args w Q) (hq : ∀ v w', Q v w' → Q' v w') : Ret P f args w Q' :=
  Calls.mono h (fun _ _ ⟨v, he, hv⟩ => ⟨v, he, hq v _ hv⟩)

section
variable {P : Program} {fn : FuncId} {N : Nat} {e : Env} {w : World} {Q : Value → World → Prop} {k : List XI}

theorem Run.step {todo todo' : List Item} {a a' : Act} {w' : World} {R : Ending → World → Prop}
    (hs : ∀ (b : Frame) (cs : List Frame), step P (lone (b.at a todo) cs w) = .next (lone (b.at a' todo') cs w')) (h : Run P fn todo' a' w' R) : Run P fn todo a w R := by
  intro b cs hb hk
  obtain ⟨e, w'', fr, hR, hc, hf, hl⟩ := h b cs hb hk
  exact ⟨e, w'', fr, hR, .of_steps (.one (hs b cs)) hc, hf, hl⟩

theorem x_skip (h : XRun P fn N k e w Q) : XRun P fn N (.code .skip :: k) e w Q := by
  intro todo a hr ha
  cases hr with | @code c x _ t hc r =>
  cases c <;> unfold cc at hc
  case skip => exact Run.step (fun b cs => step_skip) (h _ _ r ha)
  case region id ops d =>
    cases d <;> simp only [] at hc <;> (repeat' split at hc) <;> simp at hc
  all_goals first | (simp at hc; done) | ((repeat' split at hc) <;> simp at hc)

theorem x_seq {x y : X} (h : XRun P fn N (.code x :: .code y :: k) e w Q) : XRun P fn N (.code (.seq x y) :: k) e w Q := by
  intro todo a hr ha
  cases hr with | @code c _ _ t hc r =>
  cases c <;> unfold cc at hc
  case seq c1 c2 =>
    split at hc
    · rename_i h1 h2
      simp at hc
      obtain ⟨rfl, rfl⟩ := hc
      exact Run.step (fun b cs => step_seq) (h _ _ (.code h1 (.code h2 r)) ha)
    · simp at hc
  case region id ops d =>
    cases d <;> simp only [] at hc <;> (repeat' split at hc) <;> simp at hc
  all_goals first | (simp at hc; done) | ((repeat' split at hc) <;> simp at hc)

theorem x_cond_t {c : Operand} {x y : X} (hv : Env.val e c = some (.bool true)) (h : XRun P fn N (.code x :: k) e w Q) : XRun P fn N (.code (.cond c x y) :: k) e w Q := by
  intro todo a hr ha
  cases hr with | @code c' _ _ t hc r =>
  cases c' <;> unfold cc at hc
  case cond c0 c1 c2 =>
    split at hc
    · rename_i h1 h2
      simp at hc
      obtain ⟨rfl, rfl, rfl⟩ := hc
      refine Run.step (fun b cs => step_cond (t := true) (ha.val hv)) ?_
      exact h _ _ (.code h1 r) ha
    · simp at hc
  case region id ops d =>
    cases d <;> simp only [] at hc <;> (repeat' split at hc) <;> simp at hc
  all_goals first | (simp at hc; done) | ((repeat' split at hc) <;> simp at hc)

theorem x_cond_f {c : Operand} {x y : X} (hv : Env.val e c = some (.bool false)) (h : XRun P fn N (.code y :: k) e w Q) : XRun P fn N (.code (.cond c x y) :: k) e w Q := by
  intro todo a hr ha
  cases hr with | @code c' _ _ t hc r =>
  cases c' <;> unfold cc at hc
  case cond c0 c1 c2 =>
    split at hc
    · rename_i h1 h2
      simp at hc
      obtain ⟨rfl, rfl, rfl⟩ := hc
      refine Run.step (fun b cs => step_cond (t := false) (ha.val hv)) ?_
      exact h _ _ (.code h2 r) ha
    · simp at hc
  case region id ops d =>
    cases d <;> simp only [] at hc <;> (repeat' split at hc) <;> simp at hc
  all_goals first | (simp at hc; done) | ((repeat' split at hc) <;> simp at hc)

theorem x_block {id : Nat} {x : X} (h : XRun P fn N (.code x :: .blk id :: k) e w Q) : XRun P fn N (.code (.block id x) :: k) e w Q := by
  intro todo a hr ha
  cases hr with | @code c' _ _ t hc r =>
  cases c' <;> unfold cc at hc
  case block id' c1 =>
    split at hc
    · rename_i h1
      simp at hc
      obtain ⟨rfl, rfl⟩ := hc
      exact Run.step (fun b cs => step_block) (h _ _ (.code h1 (.blk r)) ha)
    · simp at hc
  case region id ops d =>
    cases d <;> simp only [] at hc <;> (repeat' split at hc) <;> simp at hc
  all_goals first | (simp at hc; done) | ((repeat' split at hc) <;> simp at hc)

theorem x_blk {id : Nat} (h : XRun P fn N k e w Q) : XRun P fn N (.blk id :: k) e w Q := by
  intro todo a hr ha
  cases hr with | blk r =>
  exact Run.step (fun b cs => step_inBlock) (h _ _ r ha)

theorem x_loop {x : X} (h : XRun P fn N (.code x :: .lp x :: k) e w Q) : XRun P fn N (.code (.loop x) :: k) e w Q := by
  intro todo a hr ha
  cases hr with | @code c' _ _ t hc r =>
  cases c' <;> unfold cc at hc
  case loop c1 =>
    split at hc
    · rename_i h1
      simp at hc
      subst hc
      exact Run.step (fun b cs => step_loop) (h _ _ (.code h1 (.lp h1 r)) ha)
    · simp at hc
  case region id ops d =>
    cases d <;> simp only [] at hc <;> (repeat' split at hc) <;> simp at hc
  all_goals first | (simp at hc; done) | ((repeat' split at hc) <;> simp at hc)

theorem x_lp {x : X} (h : XRun P fn N (.code x :: .lp x :: k) e w Q) : XRun P fn N (.lp x :: k) e w Q := by
  intro todo a hr ha
  cases hr with | lp hc r =>
  exact Run.step (fun b cs => step_inLoop) (h _ _ (.code hc (.lp hc r)) ha)

/-- A loop, by a relation with a number that falls. -/
theorem x_loop_inv {x : X} (Inv : Nat → Env → World → Prop) (n : Nat) (h0 : Inv n e w)
    (round : ∀ n e w, Inv n e w → (∀ n' e' w', n' < n → Inv n' e' w' → XRun P fn N (.lp x :: k) e' w' Q) → XRun P fn N (.code x :: .lp x :: k) e w Q) :
    XRun P fn N (.code (.loop x) :: k) e w Q := by
  have key : ∀ n e w, Inv n e w → XRun P fn N (.code x :: .lp x :: k) e w Q := by
    intro n
    induction n using Nat.strongRecOn with
    | ind n ih => exact fun e w hi => round n e w hi (fun n' e' w' hlt hi' => x_lp (ih n' hlt e' w' hi'))
  exact x_loop (key n e w h0)

def xexit (id : Nat) : List XI → Option (List XI)
  | .blk id' :: k => match Nat.beq id' id with
    | true => some k
    | false => xexit id k
  | _ :: k => xexit id k
  | [] => none

theorem xexit_rel {id : Nat} {k k' : List XI} {t : List Item} (h : xexit id k = some k') (r : Rel P N k t) : ∃ t', exitTo id t = some t' ∧ Rel P N k' t' := by
  induction r with
  | nil => simp [xexit] at h
  | code hc r ih => simp only [xexit] at h; obtain ⟨t', h1, h2⟩ := ih h; exact ⟨t', by simpa [exitTo] using h1, h2⟩
  | @blk id' k0 t0 r ih =>
    simp only [xexit] at h
    cases hb : Nat.beq id' id with
    | true =>
      rw [hb] at h
      simp at h
      subst h
      exact ⟨t0, by simp [exitTo, Nat.eq_of_beq_eq_true hb], r⟩
    | false =>
      rw [hb] at h
      obtain ⟨t', h1, h2⟩ := ih h
      refine ⟨t', ?_, h2⟩
      have : id' ≠ id := fun he => by subst he; simp at hb
      simp [exitTo, this, h1]
  | lp hc r ih => simp only [xexit] at h; obtain ⟨t', h1, h2⟩ := ih h; exact ⟨t', by simpa [exitTo] using h1, h2⟩

theorem x_exit {id : Nat} {k' : List XI} (hk : xexit id k = some k') (h : XRun P fn N k' e w Q) : XRun P fn N (.code (.exit id) :: k) e w Q := by
  intro todo a hr ha
  cases hr with | @code c' _ _ t hc r =>
  cases c' <;> unfold cc at hc
  case exit id' =>
    simp at hc
    subst hc
    obtain ⟨t', h1, h2⟩ := xexit_rel hk r
    exact Run.step (fun b cs => step_exit (by simpa [exitTo] using h1)) (h _ _ h2 ha)
  case region id ops d =>
    cases d <;> simp only [] at hc <;> (repeat' split at hc) <;> simp at hc
  all_goals first | (simp at hc; done) | ((repeat' split at hc) <;> simp at hc)

theorem x_keep {e' : Env} (ts : List Nat) (hk : Env.keep e ts = some e') (h : XRun P fn N k e' w Q) : XRun P fn N k e w Q :=
  fun todo a hr ha => h todo a hr (ha.keep hk)

/-- The results of a function that has them in slots. -/
def resVal (e : Env) : List ResultVar → Option (List Value)
  | [] => some []
  | .tmp t :: r => match Env.get e t with
    | none => none
    | some v => match resVal e r with
      | none => none
      | some vs => some (v :: vs)
  | .cell _ _ :: _ => none
def resOne : List Value → Value
  | [v] => v
  | vs => .tuple vs.toArray

theorem resVal_map {a : Act} (ha : Agree N e a) : ∀ (l : List ResultVar) (vs : List Value), resVal e l = some vs → ∃ ts : List Nat, l = ts.map ResultVar.tmp ∧ ts.map (fun t => a.tmps.getD t undef) = vs
  | [], vs, h => by simp [resVal] at h; exact ⟨[], rfl, by simp [h]⟩
  | .tmp t :: r, vs, h => by
    simp only [resVal] at h
    cases h1 : Env.get e t with
    | none => simp [h1] at h
    | some v =>
      cases h2 : resVal e r with
      | none => simp [h1, h2] at h
      | some us =>
        simp [h1, h2] at h
        subst h
        obtain ⟨ts, h3, h4⟩ := resVal_map ha r us h2
        refine ⟨t :: ts, by simp [h3], ?_⟩
        have := ha.get t v h1
        rw [List.map_cons, h4]
        simp [Array.getD_eq_getD_getElem?, this]
  | .cell _ _ :: _, vs, h => by simp [resVal] at h

theorem run_mapM_tmps (tmps : Array Value) (P : Program) (w : World) (g : ResultVar → Sem Value) (hg : ∀ t, g (.tmp t) = pure (tmps.getD t undef)) : ∀ (ts : List Nat),
    (List.mapM g (ts.map ResultVar.tmp)).run P w = .ok (ts.map (fun t => tmps.getD t undef)) w
  | [] => by simp
  | t :: ts => by
    have ih := run_mapM_tmps tmps P w g hg ts
    simp only [List.map_cons, List.mapM_cons, hg, Sem.run_bind, Sem.run_pure, Result.andThen, ih]

theorem results_env {F : Func} {vs : List Value} {a : Act} (hr : resVal e F.results.toList = some vs) (ha : Agree N e a) (w : World) :
    (results F a.tmps).run P w = .ok (resOne vs) w := by
  obtain ⟨ts, h1, h2⟩ := resVal_map ha _ _ hr
  have hF : F.results = (ts.map ResultVar.tmp).toArray := by rw [← h1]
  unfold results
  rw [hF, List.mapM_toArray]
  rw [map_eq_pure_bind]
  simp only [Sem.run_bind, Sem.run_pure, Result.andThen]
  rw [run_mapM_tmps a.tmps P w _ (fun t => rfl) ts, h2]
  match vs with
  | [] => rfl
  | [v] => rfl
  | v :: v2 :: r => rfl

/-- A function comes to its end: its results. -/
theorem x_ret {F : Func} {vs : List Value} (hF : P.funcs[fn]? = some F) (hr : resVal e F.results.toList = some vs) (hQ : Q (resOne vs) w) : XRun P fn N (.code .ret :: k) e w Q := by
  intro todo a hrel ha
  cases hrel with | @code c' _ _ t hc r =>
  cases c' <;> unfold cc at hc
  case ret =>
    intro b cs hb hk
    refine ⟨.returned (resOne vs), w, { b.at a (.code .ret :: t) with mode := .returning }, ⟨_, rfl, hQ⟩, .of_steps (.one step_ret) (Steps.refl _ _), hb, ?_⟩
    refine ⟨rfl, ha.defers, hk, F, by simpa [Frame.at, hb] using hF, ?_⟩
    exact results_env hr ha w
  case region id ops d =>
    cases d <;> simp only [] at hc <;> (repeat' split at hc) <;> simp at hc
  all_goals first | (simp at hc; done) | ((repeat' split at hc) <;> simp at hc)

theorem x_end {F : Func} {vs : List Value} (hF : P.funcs[fn]? = some F) (hr : resVal e F.results.toList = some vs) (hQ : Q (resOne vs) w) : XRun P fn N [] e w Q := by
  intro todo a hrel ha
  cases hrel
  intro b cs hb hk
  refine ⟨.returned (resOne vs), w, { b.at a [] with mode := .returning }, ⟨_, rfl, hQ⟩, .of_steps (.one step_end) (Steps.refl _ _), hb, ?_⟩
  refine ⟨rfl, ha.defers, hk, F, by simpa [Frame.at, hb] using hF, ?_⟩
  exact results_env hr ha w

/-- The environment at a call's begin. -/
def envOf : Nat → List Value → Env
  | _, [] => []
  | i, v :: vs => (i, v) :: envOf (i + 1) vs

theorem envOf_get : ∀ (vs : List Value) (i t : Nat) (v : Value), Env.get (envOf i vs) t = some v → i ≤ t ∧ vs[t - i]? = some v
  | [], i, t, v, h => by simp [envOf, Env.get] at h
  | u :: us, i, t, v, h => by
    simp only [envOf, Env.get_cons] at h
    by_cases hit : i = t
    · subst hit; simp at h; subst h; exact ⟨Nat.le_refl _, by simp⟩
    · rw [if_neg hit] at h
      obtain ⟨h1, h2⟩ := envOf_get us (i + 1) t v h
      refine ⟨by omega, ?_⟩
      have : t - i = (t - (i + 1)) + 1 := by omega
      rw [this, List.getElem?_cons_succ]; exact h2

/-- A resolved function: its body, its slots. -/
def fnX (P : Program) (f : FuncId) : Option (X × Nat × List ResultVar) := match P.funcs[f]? with
  | none => none
  | some F => match F.body with
    | none => none
    | some c => match cc P F.ntmps c with
      | none => none
      | some x => some (x, F.ntmps, F.results.toList)

/-- What is known of a function: it is this code, so many slots, these results. -/
structure FnIs (P : Program) (f : FuncId) (x : X) (N : Nat) (rs : List ResultVar) : Prop where
  is : fnX P f = some (x, N, rs)

theorem ret_of {x : X} {rs : List ResultVar} {args : Array Value} (hx : FnIs P fn x N rs) (hle' : Nat.ble args.size N = true)
    (h : XRun P fn N [.code x] (envOf 0 args.toList) w Q) : Ret P fn args w Q := by
  have hle : args.size ≤ N := Nat.le_of_ble_eq_true hle'
  have hx := hx.is
  unfold fnX at hx
  split at hx
  · simp at hx
  · rename_i F hF
    split at hx
    · simp at hx
    · rename_i c hc
      split at hx
      · simp at hx
      · rename_i x' hcc
        simp at hx
        obtain ⟨rfl, rfl, rfl⟩ := hx
        intro cs
        let b : Frame := { (default : Frame) with fn := fn, kind := .normal }
        have henter : Frame.enter P fn args .normal =
            b.at { tmps := args ++ Array.replicate (F.ntmps - args.size) undef, defers := [] } [.code c] := by
          simp [Frame.enter, Frame.at, hF, hc, b]
        have := h [.code c] { tmps := args ++ Array.replicate (F.ntmps - args.size) undef, defers := [] } (.code hcc .nil) ⟨by simp; omega, rfl, fun t v ht => by
          obtain ⟨_, h2⟩ := envOf_get _ _ _ _ ht
          simp at h2
          have hlt : t < args.size := (Array.getElem?_eq_some_iff.1 h2).1
          rw [Array.getElem?_append_left hlt]; exact h2⟩ b cs rfl rfl
        rw [henter]
        exact this

/-- The end of a function, by what is known of it. -/
theorem FnIs.func {x : X} {rs : List ResultVar} (hx : FnIs P fn x N rs) : ∃ F, P.funcs[fn]? = some F ∧ F.results.toList = rs := by
  have hx := hx.is
  unfold fnX at hx
  split at hx
  · simp at hx
  · rename_i F hF
    split at hx
    · simp at hx
    · split at hx
      · simp at hx
      · simp at hx
        exact ⟨F, hF, hx.2.2⟩

theorem x_ret' {x : X} {M : Nat} {rs : List ResultVar} (hx : FnIs P fn x M rs) {vs : List Value} (hr : resVal e rs = some vs) (hQ : Q (resOne vs) w) : XRun P fn N (.code .ret :: k) e w Q := by
  obtain ⟨F, hF, hrs⟩ := hx.func
  exact x_ret hF (by rw [hrs]; exact hr) hQ
theorem x_end' {x : X} {M : Nat} {rs : List ResultVar} (hx : FnIs P fn x M rs) {vs : List Value} (hr : resVal e rs = some vs) (hQ : Q (resOne vs) w) : XRun P fn N [] e w Q := by
  obtain ⟨F, hF, hrs⟩ := hx.func
  exact x_end hF (by rw [hrs]; exact hr) hQ
end
end Go.HX
