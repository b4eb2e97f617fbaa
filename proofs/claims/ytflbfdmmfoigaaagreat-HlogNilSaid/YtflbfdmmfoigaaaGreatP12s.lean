/- The library's sort of few ints. -/
import Derived.Test.YtflbfdmmfoigaaaGreatHxS
import Derived.Test.YtflbfdmmfoigaaaGreatIr0
import Derived.Test.YtflbfdmmfoigaaaGreatIr1
namespace Go.Proofs.YtflbfdmmfoigaaaGreat
open Go Go.HX
attribute [local irreducible] Ret XRun XOps XDr XOne Does Gives
set_option maxRecDepth 4000
set_option maxHeartbeats 1000000
theorem swap_perm : ∀ (m : List Int) (j : Nat), j + 1 < m.length → ((m.set (j + 1) (m.getD j 0)).set j (m.getD (j + 1) 0)).Perm m
  | [], j, h => by simp at h
  | [_], j, h => by simp at h
  | a :: b :: t, 0, _ => by
    show (b :: a :: t).Perm (a :: b :: t)
    exact List.Perm.swap a b t
  | a :: b :: t, j + 1, h => by
    have := swap_perm (b :: t) j (by simp at h ⊢; omega)
    show (a :: (((b :: t).set (j + 1) ((b :: t).getD j 0)).set j ((b :: t).getD (j + 1) 0))).Perm (a :: b :: t)
    exact this.cons a
theorem getD_set' (l : List Int) (i j : Nat) (z : Int) (hi : i < l.length) : (l.set i z).getD j 0 = if i = j then z else l.getD j 0 := by
  rw [List.getD_eq_getElem?_getD, List.getD_eq_getElem?_getD, List.getElem?_set]
  by_cases h : i = j
  · subst h; simp [hi]
  · simp [h]
/-- The first i rise. -/
def Rise (m : List Int) (i : Nat) : Prop := ∀ p q, p < q → q < i → m.getD p 0 ≤ m.getD q 0
/-- The first i + 1 rise, but that the one at j may be too small. -/
def RiseBut (m : List Int) (i j : Nat) : Prop := (∀ p q, p < q → q ≤ i → p ≠ j → q ≠ j → m.getD p 0 ≤ m.getD q 0) ∧ ∀ q, j < q → q ≤ i → m.getD j 0 ≤ m.getD q 0
theorem rise_start {m : List Int} {i : Nat} (h : Rise m i) : RiseBut m i i := ⟨fun p q h1 h2 _ h4 => h p q h1 (by omega), fun q h1 h2 => by omega⟩
theorem rise_end {m : List Int} {i j : Nat} (hji : j ≤ i) (h : RiseBut m i j) (hj : j = 0 ∨ m.getD (j - 1) 0 ≤ m.getD j 0) : Rise m (i + 1) := fun p q h1 h2 => by
  by_cases hp : p = j
  · subst hp; exact h.2 q h1 (by omega)
  · by_cases hq : q = j
    · subst hq
      have hj := hj.resolve_left (by omega)
      by_cases e : p = q - 1
      · rw [e]; exact hj
      · have := h.1 p (q - 1) (by omega) (by omega) hp (by omega)
        omega
    · exact h.1 p q h1 (by omega) hp hq
theorem rise_step {m : List Int} {i j : Nat} (hji : j + 1 ≤ i) (hi : i < m.length) (h : RiseBut m i (j + 1)) (hlt : m.getD (j + 1) 0 < m.getD j 0) : RiseBut ((m.set (j + 1) (m.getD j 0)).set j (m.getD (j + 1) 0)) i j := by
  have hg : ∀ q, ((m.set (j + 1) (m.getD j 0)).set j (m.getD (j + 1) 0)).getD q 0 = if j = q then m.getD (j + 1) 0 else if j + 1 = q then m.getD j 0 else m.getD q 0 := fun q => by
    rw [getD_set' _ _ _ _ (by rw [List.length_set]; omega)]
    by_cases e : j = q
    · rw [if_pos e, if_pos e]
    · rw [if_neg e, if_neg e, getD_set' _ _ _ _ (by omega)]
  refine ⟨fun p q h1 h2 h3 h4 => ?_, fun q h1 h2 => ?_⟩
  · have ep := hg p
    have eq := hg q
    rw [if_neg (fun e => h3 e.symm)] at ep
    rw [if_neg (fun e => h4 e.symm)] at eq
    rw [ep, eq]
    by_cases e1 : j + 1 = p
    · rw [if_pos e1, if_neg (by omega)]
      exact h.1 j q (by omega) h2 (by omega) (by omega)
    · rw [if_neg e1]
      by_cases e2 : j + 1 = q
      · rw [if_pos e2]
        exact h.1 p j (by omega) (by omega) (by omega) (by omega)
      · rw [if_neg e2]
        exact h.1 p q h1 h2 (by omega) (by omega)
  · have ep := hg j
    have eq := hg q
    rw [if_pos rfl] at ep
    rw [if_neg (by omega)] at eq
    rw [ep, eq]
    by_cases e2 : j + 1 = q
    · rw [if_pos e2]; omega
    · rw [if_neg e2]
      exact h.2 q (by omega) h2
section
variable {P : Program} {fn : FuncId} {N : Nat} {e : Env} {w : World} {Q : Value → World → Prop} {k : List XI} {l : List XOp}
theorem p_ixsB {dst : Option Nat} {g : Option (Nat × Bool)} {x i : Operand} {s : ByteArray} {j : Int} {kd : IntKind} (hg : wantedE e g = some true) (hx : Env.val e x = some (.string s)) (hi : Env.val e i = some (.int kd j)) (h0 : 0 ≤ j) (h1 : j < s.size)
    (hn : ∀ q : Nat, q < 256 → XOps P fn N l k (Env.put e dst (.int .u8 (q : Int))) w Q) : XOps P fn N (⟨dst, g, .ixs x i⟩ :: l) k e w Q := p_val hg (g_ixs hx hi h0 h1) (hn _ (UInt8.toNat_lt _))
end
section
variable {S : SP} {w : World} {G : List HProp}



set_option maxHeartbeats 8000000 in




end
end Go.Proofs.YtflbfdmmfoigaaaGreat
