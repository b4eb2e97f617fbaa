/- HX, part K: regions in which several that change the world may come first. -/
import Derived.Test.YtjoicobfjpaepaaHxJ
namespace Go.HX
open Go
def pickT (i : Nat) : List (Nat × XOp) → Option (XOp × List (Nat × XOp))
  | [] => none
  | (j, x) :: r => match Nat.beq j i with
    | true => some (x, r)
    | false => match pickT i r with
      | some (y, r') => some (y, (j, x) :: r')
      | none => none
theorem pickT_spec {i : Nat} : ∀ {todo : List (Nat × XOp)} {x : XOp} {r : List (Nat × XOp)}, pickT i todo = some (x, r) → (∀ p, p ∈ todo ↔ p = (i, x) ∨ p ∈ r) ∧ todo.length = r.length + 1
  | [], x, r, h => by simp [pickT] at h
  | (j, y) :: t, x, r, h => by
    simp only [pickT] at h
    split at h
    · rename_i hb
      simp at h
      obtain ⟨rfl, rfl⟩ := h
      have := Nat.eq_of_beq_eq_true hb
      subst this
      exact ⟨fun p => List.mem_cons, rfl⟩
    · split at h
      · rename_i z r' hp
        simp at h
        obtain ⟨rfl, rfl⟩ := h
        obtain ⟨h1, h2⟩ := pickT_spec hp
        refine ⟨fun p => ?_, by simp [h2]⟩
        rw [List.mem_cons, h1, List.mem_cons]
        constructor
        · rintro (h | h | h)
          · exact .inr (.inl h)
          · exact .inl h
          · exact .inr (.inr h)
        · rintro (h | h | h)
          · exact .inr (.inl h)
          · exact .inl h
          · exact .inr (.inr h)
      · simp at h
section
variable {P : Program} {fn : FuncId} {N : Nat} {es : List (List Nat)} {B : List Nat} {ws m : Nat} {R : Rec} {todo : List (Nat × XOp)} {k : List XI} {e : Env} {w : World} {Q : Value → World → Prop}
/-- Another one is taken first. -/
theorem r_front (i : Nat) {x : XOp} {r : List (Nat × XOp)} (ht : pickT i todo = some (x, r)) (h : XDr P fn N es B ws R ((i, x) :: r) m k e w Q) : XDr P fn N es B ws R todo m k e w Q := by
  obtain ⟨h1, h2⟩ := pickT_spec ht
  intro ops l hl he hB hws hap htodo a ha hD hN0
  have := h ops l hl he hB hws hap (fun p hp => htodo p ((h1 p).2 (List.mem_cons.1 hp))) a ha hD hN0
  rw [List.length_cons, ← h2] at this
  exact this
/-- What it takes that one comes first. -/
def XOne (P : Program) (fn : FuncId) (N : Nat) (es : List (List Nat)) (B : List Nat) (ws : Nat) (R : Rec) (todo : List (Nat × XOp)) (m : Nat) (k : List XI) (e : Env) (w : World) (Q : Value → World → Prop) (i : Nat) : Prop :=
  ∀ ops l, copL P N ops ops.toList = some l → ops.toList.map edgesOf = es → befAll es = B → wsOf 0 l = ws → apartOk ops = true → (∀ p ∈ todo, l[p.1]? = some p.2) →
    ∀ a, Agree N e a → Down (befOf B) (listedOf es.length m) → i ∈ Region.ready .any ops (listedOf es.length m) →
      wpOp P ops (fun ex a' w' => ex = .normal ∧ ∃ e', Agree N e' a' ∧ XRun P fn N k e' w' Q) i (fun a' w' => Now (isWB l) (befOf B) R ((listedOf es.length m).setIfInBounds i true) w' ∧
        wpAnyR P ops (fun ex a' w' => ex = .normal ∧ ∃ e', Agree N e' a' ∧ XRun P fn N k e' w' Q) (isWB l) (befOf B) R (todo.length - 1) ((listedOf es.length m).setIfInBounds i true) a' w') a w
theorem r_any {L : List Nat} (hr : rdyL es m = L) (hne : L ≠ []) (hl : todo ≠ []) (h : ∀ i ∈ L, XOne P fn N es B ws R todo m k e w Q i) : XDr P fn N es B ws R todo m k e w Q := by
  subst hr
  intro ops l hcl he hB hws hap htodo a ha hD hN0
  obtain ⟨n, hn⟩ : ∃ n, todo.length = n + 1 := by
    cases todo with
    | nil => exact absurd rfl hl
    | cons p t => exact ⟨t.length, rfl⟩
  have hrd : ∀ j, j ∈ Region.ready .any ops (listedOf es.length m) ↔ j ∈ rdyL es m := by
    intro j
    rw [ready_es he hap]
    unfold rdyL
    rw [List.mem_filter, List.mem_range]
    refine ⟨fun h1 => ⟨?_, h1⟩, fun h1 => h1.2⟩
    have h2 := h1
    unfold rdyB at h2
    simp only [Bool.and_eq_true, Nat.blt_eq] at h2
    exact h2.1.2
  rw [hn]
  refine ⟨fun h0 => ?_, fun j hj => ?_⟩
  · exfalso
    cases hL : rdyL es m with
    | nil => exact hne hL
    | cons i t =>
      have := (hrd i).2 (by rw [hL]; exact List.mem_cons_self ..)
      rw [h0] at this
      cases this
  · have := h j ((hrd j).1 hj) ops l hcl he hB hws hap htodo a ha hD hj
    rw [hn] at this
    exact this
theorem one_do {i : Nat} {d : Option Nat} {g : Option (Nat × Bool)} {xo : XO} {r : List (Nat × XOp)} {K : Value → World → Prop} (ht : pickT i todo = some (⟨d, g, xo⟩, r)) (hg : wantedE e g = some true) (hd : Does P N xo e w K)
    (h : ∀ v w', K v w' → NowL es.length B ws (m ||| 2 ^ i) R w' ∧ XDr P fn N es B ws R r (m ||| 2 ^ i) k (Env.put e d v) w' Q) : XOne P fn N es B ws R todo m k e w Q i := by
  obtain ⟨h1, h2⟩ := pickT_spec ht
  intro ops l hl he hB hws hap htodo a ha hD hrd
  have hn : es.length = ops.size := by rw [← he]; simp
  have hnl : es.length = l.length := by rw [hn, copL_length hl]; simp
  obtain ⟨o, ho, hcop⟩ := XDr.oper hl (htodo _ ((h1 _).2 (.inl rfl)))
  obtain ⟨hco, hdst, hdN, hwant⟩ := cop_inv (e := e) hcop
  have hG : Gen ops (befOf B) := by rw [← hB, ← he]; exact gen_of hl hap
  have hD' := hD.add hG hrd
  rw [listedOf_set] at hD'
  unfold wpOp
  rw [ho]
  show if Region.wanted o (yielded ops a.tmps) = true then _ else _
  rw [if_pos (hwant true a ha hg)]
  refine .inl (hd o a hco ha _ _ (fun v w' hv => ?_))
  obtain ⟨h3, h4⟩ := h v w' hv
  rw [listedOf_set]
  have hlen : todo.length - 1 = r.length := by omega
  rw [hlen]
  exact ⟨(now_iff hws hnl).1 h3, h4 ops l hl he hB hws hap (fun p hp => htodo p ((h1 p).2 (.inr hp))) _ (by have hdst : o.dst = d := hdst; rw [hdst] at hdN ⊢; exact ha.put hdN _) hD' h3⟩
/-- One that would change the world, but is passed by: the only one that may come up. -/
theorem r_noop {i : Nat} {d : Option Nat} {g : Option (Nat × Bool)} {xo : XO} (hr : rdyL es m = [i]) (hg : wantedE e g = some false)
    (h : NowL es.length B ws (m ||| 2 ^ i) R w ∧ XDr P fn N es B ws R todo (m ||| 2 ^ i) k (Env.put e d undef) w Q) : XDr P fn N es B ws R ((i, ⟨d, g, xo⟩) :: todo) m k e w Q := by
  intro ops l hl he hB hws hap htodo a ha hD hN0
  have hn : es.length = ops.size := by rw [← he]; simp
  have hnl : es.length = l.length := by rw [hn, copL_length hl]; simp
  obtain ⟨o, ho, hcop⟩ := XDr.oper hl (htodo _ (List.mem_cons_self ..))
  obtain ⟨hco, hdst, hdN, hwant⟩ := cop_inv (e := e) hcop
  have hG : Gen ops (befOf B) := by rw [← hB, ← he]; exact gen_of hl hap
  have hi : i ∈ rdyL es m := by rw [hr]; exact List.mem_cons_self ..
  have hrb : rdyB es m i = true := by unfold rdyL at hi; exact (List.mem_filter.1 hi).2
  have hrd := (ready_es (m := m) he hap i).2 hrb
  have hD' := hD.add hG hrd
  rw [listedOf_set] at hD'
  refine ⟨fun h0 => (by rw [h0] at hrd; cases hrd), fun j hj => ?_⟩
  have hji : j = i := by
    have h1 := (ready_es he hap j).1 hj
    have h2 : j ∈ rdyL es m := by
      unfold rdyL
      rw [List.mem_filter, List.mem_range]
      refine ⟨?_, h1⟩
      unfold rdyB at h1
      simp only [Bool.and_eq_true, Nat.blt_eq] at h1
      exact h1.1.2
    rw [hr] at h2
    simpa using h2
  subst hji
  unfold wpOp
  rw [ho]
  show if Region.wanted o (yielded ops a.tmps) = true then _ else _
  rw [if_neg (by rw [hwant false a ha hg]; simp)]
  obtain ⟨h1, h2⟩ := h
  have hdst : o.dst = d := hdst
  rw [listedOf_set]
  rw [hdst] at hdN ⊢
  exact ⟨(now_iff hws hnl).1 h1, h2 ops l hl he hB hws hap (fun p hp => htodo p (List.mem_cons_of_mem _ hp)) _ (ha.put hdN _) hD' h1⟩
theorem r_any2 {i j : Nat} (hr : rdyL es m = [i, j]) (hl : todo ≠ []) (h1 : XOne P fn N es B ws R todo m k e w Q i) (h2 : XOne P fn N es B ws R todo m k e w Q j) : XDr P fn N es B ws R todo m k e w Q :=
  r_any hr (by simp) hl (fun q hq => by
    rcases List.mem_cons.1 hq with rfl | hq
    · exact h1
    · rcases List.mem_cons.1 hq with rfl | hq
      · exact h2
      · cases hq)
end
end Go.HX
