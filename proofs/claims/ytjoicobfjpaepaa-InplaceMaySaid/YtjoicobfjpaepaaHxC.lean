/- HX, part C: operations that only compute. -/
import Derived.Test.YtjoicobfjpaepaaHxB
namespace Go.HX
open Go

theorem addr_add (b o n : Nat) : (⟨b, o, none⟩ : Addr).add n = ⟨b, o + n, none⟩ := by
  unfold Addr.add; split
  · subst_vars; rfl
  · rfl

/-- What an operation that only computes gives. -/
def pureV (e : Env) : XO → Option Value
  | .mv x => Env.val e x
  | .pick c a b => match Env.val e c with
    | some (.bool true) => Env.val e a
    | some (.bool false) => Env.val e b
    | _ => none
  | .nilc x => match Env.val e x with
    | some (.pointer (some a)) => some (.pointer (some a))
    | _ => none
  | .fld x off => match Env.val e x with
    | some (.pointer (some ⟨b, o, none⟩)) => some (.pointer (some ⟨b, o + off, none⟩))
    | _ => none
  | .part x off none => match Env.val e x with
    | some (.agg cs) => cs[off]?
    | _ => none
  | .part x off (some n) => match Env.val e x with
    | some (.agg cs) => some (.agg (cs.extract off (off + n)))
    | _ => none
  | .ext x i => match Env.val e x with
    | some (.tuple vs) => vs[i]?
    | _ => none
  | .un .not x => match Env.val e x with
    | some (.bool b) => some (.bool (!b))
    | _ => none
  | .lenS x => match Env.val e x with
    | some (.slice _ n _) => some (.int .i64 n)
    | _ => none
  | .lenB x => match Env.val e x with
    | some (.string s) => some (.int .i64 s.size)
    | _ => none
  | .same x => match Env.val e x with
    | some (.string s) => some (.string s)
    | _ => none
  | .eq n .bool x y => match Env.val e x, Env.val e y with
    | some (.bool a), some (.bool b) => some (.bool ((a == b) != n))
    | _, _ => none
  | .eq n .ptr x y => match Env.val e x, Env.val e y with
    | some (.pointer none), some (.pointer none) => some (.bool (!n))
    | some (.pointer none), some (.pointer (some _)) => some (.bool n)
    | some (.pointer (some _)), some (.pointer none) => some (.bool n)
    | _, _ => none
  | .eq n .slice x y => match Env.val e x, Env.val e y with
    | some (.slice none _ _), some (.slice none _ _) => some (.bool (!n))
    | some (.slice none _ _), some (.slice (some _) _ _) => some (.bool n)
    | some (.slice (some _) _ _), some (.slice none _ _) => some (.bool n)
    | _, _ => none
  | .more (.mkf f fs cs) => match Env.vals e fs, Env.vals e cs with
    | some a, some b => some (.func (.func f) a.toArray b.toArray)
    | _, _ => none
  | _ => none

section
variable {P : Program} {N : Nat} {e : Env} {w : World}

theorem agg_run {t : TypeId} {g : Option Nat} (h : aggOf P t = some g) (w : World) :
    (isAgg t).run P w = .ok g.isSome w ∧ ∀ n, g = some n → (sizeOf t).run P w = .ok n w := by
  unfold aggOf at h
  split at h <;> simp at h
  · rename_i fs i hu hi
    subst h
    exact ⟨by simp [isAgg, run_underlying hu], fun n hn => by simp at hn; subst hn; simp [sizeOf, typeInfo, hi]⟩
  · rename_i fs i hu hi
    subst h
    exact ⟨by simp [isAgg, run_underlying hu], fun n hn => by simp at hn; subst hn; simp [sizeOf, typeInfo, hi]⟩
  · rename_i d i hd ha hs hi
    subst h
    refine ⟨?_, fun n hn => by simp at hn⟩
    cases d <;> simp_all [isAgg, run_underlying]

theorem size_run {t : TypeId} {n : Nat} (h : sizeAt P t = some n) (w : World) : (sizeOf t).run P w = .ok n w := by
  unfold sizeAt at h
  cases hi : P.info? t with
  | none => simp [hi] at h
  | some i => simp [hi] at h; subst h; simp [sizeOf, typeInfo, hi]

theorem elem_und {t el : TypeId} (h : elemAt' P t = some el) : P.underlying t = some (.slice el) := by
  unfold elemAt' at h; split at h <;> simp_all
theorem str_und {t : TypeId} (h : isString P t = true) : P.underlying t = some .string := by
  unfold isString at h; split at h <;> simp_all
theorem int_und {t : TypeId} {k : IntKind} (h : intKindOf P t = some k) : P.underlying t = some (.int k) := by
  unfold intKindOf at h; split at h <;> simp_all
theorem fld_und {t ft : TypeId} {i off : Nat} (h : fldAt P t i = some (off, ft)) : ∃ fs f, P.underlying t = some (.struct fs) ∧ fs[i]? = some f ∧ f.offset = off ∧ f.type = ft := by
  unfold fldAt at h
  split at h
  · rename_i fs hu
    split at h
    · rename_i f hf; simp at h; exact ⟨fs, f, hu, hf, h.1, h.2⟩
    · simp at h
  · simp at h

theorem run_equal_of (t : TypeId) (x y : Value) (r : Bool) (h : ∀ d, (Op.equalIn (d + 1) t x y).run P w = .ok r w) : (Op.equal t x y).run P w = .ok r w := h 9999
theorem binOp_eql_ptr (t : TypeId) (a b : Option Addr) : binOp .eql t (.pointer a) (.pointer b) = (do pure (.bool (← Op.equal t (.pointer a) (.pointer b)))) := by unfold binOp; cases a <;> cases b <;> rfl
theorem binOp_neq_ptr (t : TypeId) (a b : Option Addr) : binOp .neq t (.pointer a) (.pointer b) = (do pure (.bool (!(← Op.equal t (.pointer a) (.pointer b))))) := by unfold binOp; cases a <;> cases b <;> rfl
theorem binOp_eql_sl (t : TypeId) (a b : Option Addr) (n c m d : Nat) : binOp .eql t (.slice a n c) (.slice b m d) = (do pure (.bool (← Op.equal t (.slice a n c) (.slice b m d)))) := rfl
theorem binOp_neq_sl (t : TypeId) (a b : Option Addr) (n c m d : Nat) : binOp .neq t (.slice a n c) (.slice b m d) = (do pure (.bool (!(← Op.equal t (.slice a n c) (.slice b m d))))) := rfl
theorem gives_pure {x : XO} {v : Value} (h : pureV e x = some v) : Gives P N x e w v := by
  intro o a hc ha
  cases x <;> try simp only [pureV] at h
  case more m =>
    cases m <;> try (simp only at h; simp at h; done)
    case mkf f fs cs =>
      simp only at h
      obtain ⟨fa, ca, ho, h1, h2⟩ := co2_mkf (co_2 hc)
      split at h
      · rename_i va vb ha1 hb1
        simp at h; subst h
        have e1 : fa.map a.eval = va.toArray := by
          have := ha.vals ha1
          rw [← h1] at this
          apply Array.toList_inj.1
          rw [Array.toList_map]
          exact this
        have e2 : ca.map a.eval = vb.toArray := by
          have := ha.vals hb1
          rw [← h2] at this
          apply Array.toList_inj.1
          rw [Array.toList_map]
          exact this
        simp [execOp, ho, Instr.makeFunc, e1, e2]
      · simp at h
  case mv x =>
    rcases co_mv hc with ho | ho <;> simp [execOp, ho, ha.val h]
  case pick c x y =>
    have ho := co_pick hc
    split at h
    · rename_i hcv; simp [execOp, ho, ha.val hcv, ha.val h, asBool]
    · rename_i hcv; simp [execOp, ho, ha.val hcv, ha.val h, asBool]
    · simp at h
  case nilc x =>
    have ho := co_nilc hc
    split at h
    · rename_i b hx; simp at h; subst h; simp [execOp, ho, ha.val hx]
    · simp at h
  case fld x off =>
    obtain ⟨t, i, ft, s, ho, hf, hs, hs0⟩ := co_fld hc
    obtain ⟨fs, f, hu, hfi, rfl, rfl⟩ := fld_und hf
    split at h
    · rename_i b o' hx
      simp at h; subst h
      simp [execOp, ho, ha.val hx, Instr.fieldAt, run_underlying hu, hfi, Instr.sureAddr, fieldPlace, size_run hs, hs0, addr_add]
    · simp at h
  case part x off g =>
    obtain ⟨t, i, ft, ho, hf, hg⟩ := co_part hc
    obtain ⟨fs, f, hu, hfi, rfl, rfl⟩ := fld_und hf
    obtain ⟨hg1, hg2⟩ := agg_run hg w
    cases g with
    | none =>
      simp only at h
      split at h
      · rename_i cs hx
        simp [execOp, ho, ha.val hx, Instr.field, run_underlying hu, hfi, asAgg, part, hg1, h]
      · simp at h
    | some n =>
      simp only at h
      split at h
      · rename_i cs hx
        simp at h; subst h
        simp [execOp, ho, ha.val hx, Instr.field, run_underlying hu, hfi, asAgg, part, hg1, hg2 n rfl]
      · simp at h
  case ext x i =>
    have ho := co_ext hc
    split at h
    · rename_i vs hx; simp [execOp, ho, ha.val hx, Instr.extract, h]
    · simp at h
  case un op x =>
    obtain ⟨t, ho⟩ := co_un hc
    cases op <;> simp only [] at h
    all_goals first | (simp at h; done) | skip
    split at h
    · rename_i b hb; simp at h; subst h; simp [execOp, ho, ha.val hb, Op.unary]
    · simp at h
  case lenS x =>
    obtain ⟨as, ts, t, el, ho, h1, h2, h3⟩ := co_lenS hc
    obtain rfl : as = #[x] := by cases as; simp_all
    obtain rfl : ts = #[t] := by cases ts; simp_all
    split at h
    · rename_i b n c hx; simp at h; subst h
      simp [execOp, ho, ha.val hx, resolve, invoke, builtin, Builtin.len_, run_underlying (elem_und h3), goInt]
    · simp at h
  case lenB x =>
    obtain ⟨as, ts, t, ho, h1, h2, h3⟩ := co_lenB hc
    obtain rfl : as = #[x] := by cases as; simp_all
    obtain rfl : ts = #[t] := by cases ts; simp_all
    split at h
    · rename_i b hx; simp at h; subst h
      simp [execOp, ho, ha.val hx, resolve, invoke, builtin, Builtin.len_, run_underlying (str_und h3), goInt]
    · simp at h
  case same x =>
    obtain ⟨s, d, ho, h1, h2⟩ := co_same hc
    split at h
    · rename_i b hx; simp at h; subst h
      simp [execOp, ho, ha.val hx, convert, run_underlying (str_und h1), run_underlying (str_und h2)]
    · simp at h
  case eq n c x y =>
    obtain ⟨t, yt, ho, hcl⟩ := co_eq hc
    cases c with
    | bool =>
      have hu : P.underlying t = some .bool := by
        unfold eqClass at hcl; (repeat' split at hcl) <;> simp_all
      simp only at h
      split at h
      · rename_i b1 b2 hx hy; simp at h; subst h
        have := run_equal_of (P := P) (w := w) t (.bool b1) (.bool b2) (b1 == b2) (fun d => by simp [Op.equalIn, run_underlying hu])
        cases n
        · have h2 : (binOp .eql t (.bool b1) (.bool b2)).run P w = .ok (.bool (b1 == b2)) w := by unfold binOp; simp only [Sem.run_bind, this, Result.andThen, Sem.run_pure]
          simp [execOp, ho, ha.val hx, ha.val hy, eqGuard, h2]
        · have h2 : (binOp .neq t (.bool b1) (.bool b2)).run P w = .ok (.bool (!(b1 == b2))) w := by unfold binOp; simp only [Sem.run_bind, this, Result.andThen, Sem.run_pure]
          simp [execOp, ho, ha.val hx, ha.val hy, eqGuard, h2]
      · simp at h
    | ptr =>
      have hu : ∃ el, P.underlying t = some (.pointer el) := by
        unfold eqClass at hcl; (repeat' split at hcl) <;> simp_all
      obtain ⟨el, hu⟩ := hu
      simp only at h
      split at h <;> simp at h <;> subst h
      all_goals
        rename_i hx hy
        first
        | have := run_equal_of (P := P) (w := w) t (.pointer none) (.pointer none) true (fun d => by simp [Op.equalIn, run_underlying hu])
          cases n <;> simp [execOp, ho, ha.val hx, ha.val hy, eqGuard, binOp_eql_ptr, binOp_neq_ptr, this]
          done
        | have := fun b => run_equal_of (P := P) (w := w) t (.pointer none) (.pointer (some b)) false (fun d => by simp [Op.equalIn, run_underlying hu])
          cases n <;> simp [execOp, ho, ha.val hx, ha.val hy, eqGuard, binOp_eql_ptr, binOp_neq_ptr, this]
          done
        | have := fun b => run_equal_of (P := P) (w := w) t (.pointer (some b)) (.pointer none) false (fun d => by simp [Op.equalIn, run_underlying hu])
          cases n <;> simp [execOp, ho, ha.val hx, ha.val hy, eqGuard, binOp_eql_ptr, binOp_neq_ptr, this]
          done
    | slice =>
      have hu : ∃ el, P.underlying t = some (.slice el) := by
        unfold eqClass at hcl; (repeat' split at hcl) <;> simp_all
      obtain ⟨el, hu⟩ := hu
      simp only at h
      split at h <;> simp at h <;> subst h
      all_goals
        rename_i hx hy
        first
        | have := fun a b c d => run_equal_of (P := P) (w := w) t (.slice none a b) (.slice none c d) true (fun d => by simp [Op.equalIn, run_underlying hu])
          cases n <;> simp [execOp, ho, ha.val hx, ha.val hy, eqGuard, binOp_eql_sl, binOp_neq_sl, this]
          done
        | have := fun a b x c d => run_equal_of (P := P) (w := w) t (.slice none a b) (.slice (some x) c d) false (fun d => by simp [Op.equalIn, run_underlying hu])
          cases n <;> simp [execOp, ho, ha.val hx, ha.val hy, eqGuard, binOp_eql_sl, binOp_neq_sl, this]
          done
        | have := fun a b x c d => run_equal_of (P := P) (w := w) t (.slice (some x) a b) (.slice none c d) false (fun d => by simp [Op.equalIn, run_underlying hu])
          cases n <;> simp [execOp, ho, ha.val hx, ha.val hy, eqGuard, binOp_eql_sl, binOp_neq_sl, this]
          done
    | agg n l => simp at h
  all_goals simp at h
end
end Go.HX
