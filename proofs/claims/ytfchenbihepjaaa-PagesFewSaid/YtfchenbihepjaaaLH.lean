/- Of each of a list a part of the heap. -/
import Derived.Test.YtfchenbihepjaaaHxS
namespace Go.Proofs.Ytfchenbihepjaaa
open Go Go.HX
set_option maxRecDepth 4000
set_option maxHeartbeats 1000000
/-- Of each of a list a part of the heap. -/
def bigH {α : Type} (f : α → HProp) : List α → HProp
  | [] => emp
  | x :: xs => sep (f x) (bigH f xs)
section
variable {S : SP} {w : World} {G : List HProp} {α : Type} {f : α → HProp}

theorem bigH_take : ∀ {xs : List α} {i : Nat} {x : α} {G : List HProp}, xs[i]? = some x → Sat S w (bigH f xs :: G) → Sat S w (f x :: bigH f (xs.eraseIdx i) :: G)
  | [], _, _, _, hx, _ => by simp at hx
  | y :: ys, 0, x, G, hx, h => by
    simp only [List.getElem?_cons_zero, Option.some.injEq] at hx
    subst hx
    exact Sat_sep.1 h
  | y :: ys, i + 1, x, G, hx, h => by
    have h1 : Sat S w (f y :: bigH f ys :: G) := Sat_sep.1 h
    have h2 := bigH_take (G := f y :: G) (by simpa using hx) (h1.pick (.there .here))
    have h3 : Sat S w (f y :: bigH f (ys.eraseIdx i) :: f x :: G) := h2.sub (.cons (.there (.there .here)) (.cons (.there .here) (.cons .here (.refl _))))
    have h4 : Sat S w (bigH f ((y :: ys).eraseIdx (i + 1)) :: f x :: G) := Sat_sep.2 h3
    exact h4.pick (.there .here)
theorem bigH_put : ∀ {xs : List α} {i : Nat} {x : α} {G : List HProp}, i < xs.length → Sat S w (f x :: bigH f (xs.eraseIdx i) :: G) → Sat S w (bigH f (xs.set i x) :: G)
  | [], _, _, _, hx, _ => by simp at hx
  | y :: ys, 0, x, G, hx, h => Sat_sep.2 h
  | y :: ys, i + 1, x, G, hx, h => by
    have h1 : Sat S w (bigH f (y :: ys.eraseIdx i) :: f x :: G) := h.pick (.there .here)
    have h2 : Sat S w (f y :: bigH f (ys.eraseIdx i) :: f x :: G) := Sat_sep.1 h1
    have h3 : Sat S w (f x :: bigH f (ys.eraseIdx i) :: f y :: G) := h2.sub (.cons (.there (.there .here)) (.cons (.there .here) (.cons .here (.refl _))))
    have h4 := bigH_put (by simpa using hx) h3
    have h5 : Sat S w (f y :: bigH f (ys.set i x) :: G) := h4.pick (.there .here)
    exact Sat_sep.2 h5
theorem bigH_push : ∀ {xs : List α} {x : α} {G : List HProp}, Sat S w (f x :: bigH f xs :: G) → Sat S w (bigH f (xs ++ [x]) :: G)
  | [], _, _, h => Sat_sep.2 h
  | y :: ys, x, G, h => by
    have h1 : Sat S w (bigH f (y :: ys) :: f x :: G) := h.pick (.there .here)
    have h2 : Sat S w (f y :: bigH f ys :: f x :: G) := Sat_sep.1 h1
    have h3 : Sat S w (f x :: bigH f ys :: f y :: G) := h2.sub (.cons (.there (.there .here)) (.cons (.there .here) (.cons .here (.refl _))))
    have h4 := bigH_push h3
    have h5 : Sat S w (f y :: bigH f (ys ++ [x]) :: G) := h4.pick (.there .here)
    exact Sat_sep.2 h5
end
end Go.Proofs.Ytfchenbihepjaaa
