/- HX, part I: more operations. -/
import Derived.Test.YtjlpjhbmfakpjaaHxH
namespace Go.HX
open Go
section
variable {P : Program} {fn : FuncId} {N : Nat} {e : Env} {w : World} {Q : Value → World → Prop} {k : List XI} {l : List XOp}
variable {t : TypeId} {x y : Operand} {a b : Int} {kd : IntKind} {op : BinOp}

/-- A shift of an int. -/
theorem g_shl_i {k2 : IntKind} {v : Int} (hx : Env.val e x = some (.int .i64 a)) (hy : Env.val e y = some (.int k2 b)) (b0 : 0 ≤ b) (hv : IntKind.i64.wrap (a * 2 ^ min b.toNat 64) = v) : Gives P N (.bin .shl t x y) e w (.int .i64 v) := by
  intro o c hc hA
  obtain ⟨yt, ho⟩ := co_bin hc
  have hb : ¬ b < 0 := by omega
  subst hv
  simp [execOp, ho, hA.val hx, hA.val hy, eqGuard, binOp, Op.shift, hb, IntKind.bits]
end
end Go.HX
