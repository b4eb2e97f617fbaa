/- HX, part B: operations. -/
import Derived.Test.YtjoicobfjpaepaaHxA
namespace Go.HX
open Go

/-! ### what an operation is, by its resolved form -/
section inv
variable {P : Program} {o : Oper}
theorem co_1 {x : XO} (h : co P o = some x) (hx : ∀ m, x ≠ .more m) : co1 P o = some x := by
  unfold co at h
  split at h
  · rename_i y hy; rw [hy]; exact h
  · split at h
    · simp at h; exact absurd h.symm (hx _)
    · simp at h
theorem co1_nomore {m : XM} : co1 P o ≠ some (.more m) := by
  intro h
  unfold co1 at h; (repeat' split at h) <;> simp at h
theorem co_2 {m : XM} (h : co P o = some (.more m)) : co2 P o = some m := by
  unfold co at h
  split at h
  · rename_i y hy; simp at h; subst h; exact absurd hy co1_nomore
  · split at h
    · rename_i m' hm; simp at h; subst h; exact hm
    · simp at h
theorem co_mv {x : Operand} (h : co P o = some (.mv x)) : o.op = .move x ∨ o.op = .assign x := by
  replace h := co_1 h nofun; unfold co1 at h; (repeat' split at h) <;> first | (simp at h; done) | grind
theorem co_pick {c a b : Operand} (h : co P o = some (.pick c a b)) : o.op = .pick c a b := by
  replace h := co_1 h nofun; unfold co1 at h; (repeat' split at h) <;> first | (simp at h; done) | grind
theorem co_nilc {x : Operand} (h : co P o = some (.nilc x)) : o.op = .nilCheck x := by
  replace h := co_1 h nofun; unfold co1 at h; (repeat' split at h) <;> first | (simp at h; done) | grind
theorem co_fld {x : Operand} {off : Nat} (h : co P o = some (.fld x off)) : ∃ t i ft s, o.op = .fieldAddr t x i ∧ fldAt P t i = some (off, ft) ∧ sizeAt P ft = some s ∧ s ≠ 0 := by
  replace h := co_1 h nofun; unfold co1 at h; (repeat' split at h) <;> grind
theorem co_idx {x i : Operand} {s : Nat} (h : co P o = some (.idx x i s)) : ∃ t e, o.op = .indexAddr t x i ∧ elemAt' P t = some e ∧ sizeAt P e = some s := by
  replace h := co_1 h nofun; unfold co1 at h; (repeat' split at h) <;> first | (simp at h; done) | grind
theorem co_ixp {x i : Operand} {n s : Nat} (h : co P o = some (.ixp x i n s)) : ∃ t e, o.op = .indexAddr t x i ∧ P.underlying t = some (.array n e) ∧ sizeAt P e = some s := by
  replace h := co_1 h nofun; unfold co1 at h; (repeat' split at h) <;> first | (simp at h; done) | grind
theorem co_part {x : Operand} {off : Nat} {g : Option Nat} (h : co P o = some (.part x off g)) : ∃ t i ft, o.op = .field t x i ∧ fldAt P t i = some (off, ft) ∧ aggOf P ft = some g := by
  replace h := co_1 h nofun; unfold co1 at h; (repeat' split at h) <;> first | (simp at h; done) | grind
theorem co_ixs {x i : Operand} (h : co P o = some (.ixs x i)) : ∃ t, o.op = .index t x i ∧ isString P t = true := by
  replace h := co_1 h nofun; unfold co1 at h; (repeat' split at h) <;> first | (simp at h; done) | grind
theorem co_ext {x : Operand} {i : Nat} (h : co P o = some (.ext x i)) : o.op = .extract x i := by
  replace h := co_1 h nofun; unfold co1 at h; (repeat' split at h) <;> first | (simp at h; done) | grind
theorem co_un {op : UnOp} {x : Operand} (h : co P o = some (.un op x)) : ∃ t, o.op = .unOp op t x := by
  replace h := co_1 h nofun; unfold co1 at h; (repeat' split at h) <;> first | (simp at h; done) | grind
theorem co_bin {op : BinOp} {t : TypeId} {x y : Operand} (h : co P o = some (.bin op t x y)) : ∃ yt, o.op = .binOp op t x y yt := by
  replace h := co_1 h nofun; unfold co1 at h; (repeat' split at h) <;> first | (simp at h; done) | grind
theorem co_eq {n : Bool} {c : EqC} {x y : Operand} (h : co P o = some (.eq n c x y)) : ∃ t yt, o.op = .binOp (if n then .neq else .eql) t x y yt ∧ eqClass P t = some c := by
  replace h := co_1 h nofun; unfold co1 at h; (repeat' split at h) <;> first | (simp at h; done) | grind
theorem co_conv {k : IntKind} {x : Operand} (h : co P o = some (.conv k x)) : ∃ s d k', o.op = .convert s d x ∧ intKindOf P s = some k' ∧ intKindOf P d = some k := by
  replace h := co_1 h nofun; unfold co1 at h; (repeat' split at h) <;> first | (simp at h; done) | grind
theorem co_same {x : Operand} (h : co P o = some (.same x)) : ∃ s d, o.op = .convert s d x ∧ isString P s = true ∧ isString P d = true := by
  replace h := co_1 h nofun; unfold co1 at h; (repeat' split at h) <;> first | (simp at h; done) | grind
theorem co_s2b {e : TypeId} {x : Operand} (h : co P o = some (.s2b e x)) : ∃ s d, o.op = .convert s d x ∧ isString P s = true ∧ elemAt' P d = some e ∧ intKindOf P e = some .u8 := by
  replace h := co_1 h nofun; unfold co1 at h; (repeat' split at h) <;> first | (simp at h; done) | grind
theorem co_b2s {x : Operand} (h : co P o = some (.b2s x)) : ∃ s d e, o.op = .convert s d x ∧ isString P d = true ∧ elemAt' P s = some e ∧ intKindOf P e = some .u8 := by
  replace h := co_1 h nofun; unfold co1 at h; (repeat' split at h) <;> first | (simp at h; done) | grind
theorem co_ld {x : Operand} {g : Option Nat} (h : co P o = some (.ld x g)) : ∃ t, o.op = .load t x ∧ aggOf P t = some g := by
  replace h := co_1 h nofun; unfold co1 at h; (repeat' split at h) <;> first | (simp at h; done) | grind
theorem co_st {x v : Operand} {n : Nat} (h : co P o = some (.st x v n)) : ∃ t, o.op = .store t x v ∧ sizeAt P t = some n := by
  replace h := co_1 h nofun; unfold co1 at h; (repeat' split at h) <;> first | (simp at h; done) | grind
theorem co_new {t : TypeId} {z : Value} (h : co P o = some (.new t z)) : ∃ i, o.op = .alloc t ∧ P.info? t = some i ∧ i.zero = some z := by
  replace h := co_1 h nofun; unfold co1 at h; (repeat' split at h) <;> first | (simp at h; done) | grind
theorem co_box {t : TypeId} {x : Operand} (h : co P o = some (.box t x)) : o.op = .box t x := by
  replace h := co_1 h nofun; unfold co1 at h; (repeat' split at h) <;> first | (simp at h; done) | grind
theorem co_bld {z : List Value} {l : List (Nat × Nat × Operand)} (h : co P o = some (.bld z l)) : ∃ t parts fs pl, o.op = .build t parts ∧ P.underlying t = some (.struct fs) ∧ zeroAt P t = some z ∧ placesAt P fs.toList = some pl ∧ partsAt pl parts.toList = some l := by
  replace h := co_1 h nofun; unfold co1 at h; (repeat' split at h) <;> first | (simp at h; done) | grind
theorem co_bsl {e : TypeId} {s len : Nat} {z : List Value} {l : List (Nat × Operand)} (h : co P o = some (.bsl e s len z l)) : ∃ t parts, o.op = .buildSlice t len parts ∧ elemAt' P t = some e ∧ sizeAt P e = some s ∧ zeroAt P e = some z ∧ l = parts.toList := by
  replace h := co_1 h nofun; unfold co1 at h; (repeat' split at h) <;> first | (simp at h; done) | grind
theorem co_mks {e : TypeId} {s b : Nat} {z : List Value} {l c : Operand} (h : co P o = some (.mks e s b z l c)) : ∃ t, o.op = .makeSlice t l c ∧ elemAt' P t = some e ∧ sizeAt P e = some s ∧ bytesAt P e = some b ∧ zeroAt P e = some z := by
  replace h := co_1 h nofun; unfold co1 at h; (repeat' split at h) <;> first | (simp at h; done) | grind
theorem co_slc {s : Nat} {x : Operand} {lo hi : Option Operand} (h : co P o = some (.slc s x lo hi)) : ∃ t e, o.op = .slice t x lo hi none ∧ elemAt' P t = some e ∧ sizeAt P e = some s := by
  replace h := co_1 h nofun; unfold co1 at h; (repeat' split at h) <;> first | (simp at h; done) | grind
theorem co_sls {x : Operand} {lo hi : Option Operand} (h : co P o = some (.sls x lo hi)) : ∃ t, o.op = .slice t x lo hi none ∧ isString P t = true := by
  replace h := co_1 h nofun; unfold co1 at h; (repeat' split at h) <;> first | (simp at h; done) | grind
theorem co_call {f : FuncId} {args : List Operand} (h : co P o = some (.call f args)) : ∃ as ts fn c, o.op = .call { callee := .value (.func f), args := as, argTypes := ts } ∧ as.toList = args ∧ P.funcs[f]? = some fn ∧ fn.body = some c ∧ (fn.name == "runtime.NumGoroutine") = false := by
  replace h := co_1 h nofun; unfold co1 at h; (repeat' split at h) <;> first | (simp at h; done) | grind
theorem co_ext1 {f : FuncId} {args : List Operand} (h : co P o = some (.ext1 f args)) : ∃ as ts, o.op = .call { callee := .value (.func f), args := as, argTypes := ts } ∧ as.toList = args := by
  replace h := co_1 h nofun; unfold co1 at h; (repeat' split at h) <;> first | (simp at h; done) | grind
theorem co_lenS {x : Operand} (h : co P o = some (.lenS x)) : ∃ as ts t e, o.op = .call { callee := .builtin .len, args := as, argTypes := ts } ∧ as.toList = [x] ∧ ts.toList = [t] ∧ elemAt' P t = some e := by
  replace h := co_1 h nofun; unfold co1 at h; (repeat' split at h) <;> first | (simp at h; done) | grind
theorem co_lenB {x : Operand} (h : co P o = some (.lenB x)) : ∃ as ts t, o.op = .call { callee := .builtin .len, args := as, argTypes := ts } ∧ as.toList = [x] ∧ ts.toList = [t] ∧ isString P t = true := by
  replace h := co_1 h nofun; unfold co1 at h; (repeat' split at h) <;> first | (simp at h; done) | grind
theorem co_mnx {b : Bool} {x : Operand} {xs : List Operand} (h : co P o = some (.mnx b x xs)) : ∃ as ts, o.op = .call { callee := .builtin (if b then .max else .min), args := as, argTypes := ts } ∧ as.toList = x :: xs := by
  replace h := co_1 h nofun; unfold co1 at h; (repeat' split at h) <;> first | (simp at h; done) | grind
theorem co_app {e : TypeId} {sz b : Nat} {z : List Value} {s x : Operand} (h : co P o = some (.app e sz b z s x)) : ∃ as ts t, o.op = .call { callee := .builtin .append, args := as, argTypes := ts } ∧ as.toList = [s, x] ∧ ts.toList = [t, t] ∧ elemAt' P t = some e ∧ sizeAt P e = some sz ∧ bytesAt P e = some b ∧ zeroAt P e = some z := by
  replace h := co_1 h nofun; unfold co1 at h; (repeat' split at h) <;> first | (simp at h; done) | skip
  have hb : ∀ t t' : Nat, Nat.beq t t' = true → t = t' := fun t t' h => Nat.eq_of_beq_eq_true h
  grind
theorem co_cpy {sz : Nat} {d s : Operand} (h : co P o = some (.cpy sz d s)) : ∃ as ts t ts' e, o.op = .call { callee := .builtin .copy, args := as, argTypes := ts } ∧ as.toList = [d, s] ∧ ts.toList = t :: ts' ∧ elemAt' P t = some e ∧ sizeAt P e = some sz := by
  replace h := co_1 h nofun; unfold co1 at h; (repeat' split at h) <;> first | (simp at h; done) | grind
theorem co2_mkf {f : FuncId} {fs cs : List Operand} (h : co2 P o = some (.mkf f fs cs)) : ∃ fa ca, o.op = .makeFunc (.func f) fa ca ∧ fa.toList = fs ∧ ca.toList = cs := by
  unfold co2 at h; (repeat' split at h) <;> first | (simp at h; done) | grind
theorem co2_cv {x : Operand} {args : List Operand} (h : co2 P o = some (.cv x args)) : ∃ as ts, o.op = .call { callee := .value x, args := as, argTypes := ts } ∧ as.toList = args := by
  unfold co2 at h; (repeat' split at h) <;> first | (simp at h; done) | grind
theorem co2_bla {z : List Value} {s : Nat} {l : List (Nat × Operand)} (h : co2 P o = some (.bla z s l)) : ∃ t n el parts, o.op = .build t parts ∧ P.underlying t = some (.array n el) ∧ zeroAt P t = some z ∧ sizeAt P el = some s ∧ parts.toList = l := by
  unfold co2 at h; (repeat' split at h) <;> first | (simp at h; done) | grind
theorem co2_mkm (h : co2 P o = some .mkm) : ∃ t, o.op = .makeMap t none := by
  unfold co2 at h; (repeat' split at h) <;> first | (simp at h; done) | grind
theorem co2_lkp {k : TypeId} {z : Value} {ok : Bool} {x i : Operand} (h : co2 P o = some (.lkp k z ok x i)) : ∃ t el, o.op = .lookup t x i ok ∧ mapAt P t = some (k, el) ∧ zeroV P el = some z := by
  unfold co2 at h; (repeat' split at h) <;> first | (simp at h; done) | grind
theorem co2_ixa {n s : Nat} {g : Option Nat} {x i : Operand} (h : co2 P o = some (.ixa n s g x i)) : ∃ t el, o.op = .index t x i ∧ P.underlying t = some (.array n el) ∧ sizeAt P el = some s ∧ aggOf P el = some g := by
  unfold co2 at h; (repeat' split at h) <;> first | (simp at h; done) | grind
theorem co2_mup {k : TypeId} {x i v : Operand} (h : co2 P o = some (.mup k x i v)) : ∃ t el, (o.op = .mapUpdate t x i v ∨ o.op = .insert t x i v) ∧ mapAt P t = some (k, el) := by
  unfold co2 at h; (repeat' split at h) <;> first | (simp at h; done) | grind
end inv

/-! ### regions that keep the order of the text -/
def wantedE (e : Env) : Option (Nat × Bool) → Option Bool
  | none => some true
  | some (g, want) => match Env.get e g with
    | some (.bool b) => some (b == want)
    | some _ => some false
    | none => none

def XOps (P : Program) (fn : FuncId) (N : Nat) (l : List XOp) (k : List XI) (e : Env) (w : World) (Q : Value → World → Prop) : Prop :=
  ∀ ops os, copL P N ops os = some l → ∀ a, Agree N e a →
    wpList P ops (fun ex a' w' => ex = .normal ∧ ∃ e', Agree N e' a' ∧ XRun P fn N k e' w' Q) os a w

/-- What an operation does in a world: it gives v, in world w', and K v w'. -/
def Does (P : Program) (N : Nat) (x : XO) (e : Env) (w : World) (K : Value → World → Prop) : Prop :=
  ∀ o a, co P o = some x → Agree N e a → ∀ next Q', (∀ v w', K v w' → next (a.put o.dst v) w') → o.upon P a next Q' ((execOp a.eval o).run P w)

theorem Does.value {P : Program} {N : Nat} {x : XO} {e : Env} {w w' : World} {v : Value}
    (h : ∀ o a, co P o = some x → Agree N e a → (execOp a.eval o).run P w = .ok (.value v) w') : Does P N x e w (fun v' w'' => v' = v ∧ w'' = w') :=
  fun o a hc ha next Q' hn => by rw [h o a hc ha]; exact hn v w' ⟨rfl, rfl⟩

theorem Does.mono {P : Program} {N : Nat} {x : XO} {e : Env} {w : World} {K K' : Value → World → Prop} (h : Does P N x e w K) (hk : ∀ v w', K v w' → K' v w') : Does P N x e w K' :=
  fun o a hc ha next Q' hn => h o a hc ha next Q' (fun v w' hv => hn v w' (hk v w' hv))

section
variable {P : Program} {fn : FuncId} {N : Nat} {e : Env} {w : World} {Q : Value → World → Prop} {k : List XI} {l : List XOp}

theorem x_ops (h : XOps P fn N l k e w Q) : XRun P fn N (.code (.ops l) :: k) e w Q := by
  intro todo a hr ha
  cases hr with | @code c' _ _ t hc r =>
  cases c' <;> unfold cc at hc
  case region id ops d =>
    cases d <;> simp only [] at hc <;> (repeat' split at hc) <;> simp at hc
    rename_i l' hl
    subst hc
    intro b cs hb hk
    obtain ⟨ex, a', w', ⟨rfl, e', ha', hx⟩, harr⟩ := wp_region_list (id := id) (h ops _ hl a ha) b t cs
    obtain ⟨en, w'', fr, hR, hcm, hf, hlv⟩ := hx t a' r ha' b cs hb hk
    exact ⟨en, w'', fr, hR, .of_steps harr hcm, hf, hlv⟩
  all_goals first | (simp at hc; done) | ((repeat' split at hc) <;> simp at hc)

theorem x_nil (h : XRun P fn N k e w Q) : XOps P fn N [] k e w Q := by
  intro ops os ho a ha
  cases os with
  | nil => exact ⟨rfl, e, ha, h⟩
  | cons o os => simp only [copL] at ho; (repeat' split at ho) <;> simp at ho

theorem copL_cons {ops : Array Oper} {os : List Oper} {x : XOp} (h : copL P N ops os = some (x :: l)) : ∃ o os', os = o :: os' ∧ cop P N ops o = some x ∧ copL P N ops os' = some l := by
  cases os with
  | nil => simp [copL] at h
  | cons o os =>
    simp only [copL] at h
    (repeat' split at h) <;> simp at h
    rename_i h1 _ _ h2
    obtain ⟨rfl, rfl⟩ := h
    exact ⟨o, os, rfl, h1, h2⟩

theorem cop_inv {ops : Array Oper} {o : Oper} {x : XOp} (h : cop P N ops o = some x) : co P o = some x.op ∧ o.dst = x.dst ∧ (∀ d, o.dst = some d → d < N) ∧
    (∀ b, ∀ a, Agree N e a → wantedE e x.guard = some b → Region.wanted o (yielded ops a.tmps) = b) := by
  unfold cop at h
  split at h
  · simp at h
  · rename_i xo hxo
    split at h
    · simp at h
    · rename_i hd
      have hdN : ∀ d, o.dst = some d → d < N := by
        intro d hdd
        rw [hdd] at hd
        simpa [Nat.blt_eq] using hd
      split at h
      · rename_i hg
        simp at h
        subst h
        refine ⟨hxo, rfl, hdN, fun b a ha hw => ?_⟩
        simp [wantedE] at hw
        simp [Region.wanted, hg, hw]
      · rename_i j want hg
        split at h
        · rename_i g hj
          simp at h
          subst h
          refine ⟨hxo, rfl, hdN, fun b a ha hw => ?_⟩
          simp only [wantedE] at hw
          split at hw
          · rename_i b' hget
            have h1 := ha.get g _ hget
            simp at hw
            subst hw
            simp [Region.wanted, hg, yielded, hj, h1]
          · rename_i v hv hget
            have h1 := ha.get g _ hget
            simp at hw
            subst hw
            simp only [Region.wanted, hg, yielded, hj, Option.bind_some]
            rw [h1]
            cases v <;> simp_all
          · simp at hw
        · simp at h

theorem p_skip {dst : Option Nat} {g : Option (Nat × Bool)} {xo : XO} (hg : wantedE e g = some false) (h : XOps P fn N l k (Env.put e dst undef) w Q) : XOps P fn N (⟨dst, g, xo⟩ :: l) k e w Q := by
  intro ops os ho a ha
  obtain ⟨o, os', rfl, h1, h2⟩ := copL_cons ho
  obtain ⟨hco, hdst, hdN, hwant⟩ := cop_inv (e := e) h1
  have hw := hwant false a ha hg
  unfold wpList
  rw [if_neg (by simp [hw])]
  simp only at hdst
  rw [hdst]
  exact h ops os' h2 _ (ha.put (by rw [← hdst]; exact hdN) _)

theorem p_do {dst : Option Nat} {g : Option (Nat × Bool)} {xo : XO} {K : Value → World → Prop} (hg : wantedE e g = some true) (hd : Does P N xo e w K)
    (h : ∀ v w', K v w' → XOps P fn N l k (Env.put e dst v) w' Q) : XOps P fn N (⟨dst, g, xo⟩ :: l) k e w Q := by
  intro ops os ho a ha
  obtain ⟨o, os', rfl, h1, h2⟩ := copL_cons ho
  obtain ⟨hco, hdst, hdN, hwant⟩ := cop_inv (e := e) h1
  have hw := hwant true a ha hg
  unfold wpList
  rw [if_pos hw]
  refine .inl (hd o a hco ha _ _ (fun v w' hv => ?_))
  simp only at hdst
  rw [hdst]
  exact h v w' hv ops os' h2 _ (ha.put (by rw [← hdst]; exact hdN) _)

/-- An operation of one value, the world left alone. -/
def Gives (P : Program) (N : Nat) (x : XO) (e : Env) (w : World) (v : Value) : Prop :=
  ∀ o a, co P o = some x → Agree N e a → (execOp a.eval o).run P w = .ok (.value v) w

theorem p_val {dst : Option Nat} {g : Option (Nat × Bool)} {xo : XO} {v : Value} (hg : wantedE e g = some true) (hd : Gives P N xo e w v)
    (h : XOps P fn N l k (Env.put e dst v) w Q) : XOps P fn N (⟨dst, g, xo⟩ :: l) k e w Q :=
  p_do hg (Does.value hd) (by rintro v' w' ⟨rfl, rfl⟩; exact h)
end
end Go.HX
