/- HX, part L: structs that are compared; rows of structs. -/
import Derived.Test.YtjoicobfjpaepaaHxK
import Derived.Laws.StructEq
namespace Go.HX
open Go

/-! ### structs, compared -/
def pEq : Nat → Value → Value → Option Bool
  | 0, .int k a, .int k' b => match decide (k = k') with
    | true => some (a == b)
    | false => none
  | 1, .bool a, .bool b => some (a == b)
  | 2, .string a, .string b => some (a == b)
  | _, _, _ => none
def pP : Nat → Value → Value → Option Prop
  | 0, .int k a, .int k' b => match decide (k = k') with
    | true => some (a = b)
    | false => none
  | 1, .bool a, .bool b => some (a = b)
  | 2, .string a, .string b => some (a = b)
  | _, _, _ => none
def cellsEq (xs ys : Array Value) : List (Nat × Nat) → Option Bool
  | [] => some true
  | (i, t) :: l => match xs[i]?, ys[i]? with
    | some a, some b => match pEq t a b, cellsEq xs ys l with
      | some r, some q => some (r && q)
      | _, _ => none
    | _, _ => none
def cellsP (xs ys : Array Value) : List (Nat × Nat) → Option Prop
  | [] => some True
  | (i, t) :: l => match xs[i]?, ys[i]? with
    | some a, some b => match pP t a b, cellsP xs ys l with
      | some r, some q => some (r ∧ q)
      | _, _ => none
    | _, _ => none
theorem ba_beq (a b : ByteArray) : (a == b) = true ↔ a = b := by
  rw [beq_toListBytes, beq_iff_eq, ByteArray.toList_eq, ByteArray.toList_eq]
  constructor
  · intro h
    cases a; cases b
    simp at h
    rw [h]
  · intro h; rw [h]
theorem pP_eq {t : Nat} {a b : Value} {p : Prop} (h : pP t a b = some p) : ∃ r, pEq t a b = some r ∧ (r = true ↔ p) := by
  unfold pP at h
  unfold pEq
  split at h
  · split at h
    · rename_i hk
      have h := Option.some.inj h
      subst h
      exact ⟨_, rfl, by simp⟩
    · cases h
  · have h := Option.some.inj h
    subst h
    exact ⟨_, rfl, by simp⟩
  · have h := Option.some.inj h
    subst h
    exact ⟨_, rfl, ba_beq _ _⟩
  · cases h
theorem cellsP_eq {xs ys : Array Value} : ∀ {l : List (Nat × Nat)} {p : Prop}, cellsP xs ys l = some p → ∃ r, cellsEq xs ys l = some r ∧ (r = true ↔ p)
  | [], p, h => by
    have h := Option.some.inj h
    subst h
    exact ⟨true, rfl, ⟨fun _ => trivial, fun _ => rfl⟩⟩
  | (i, t) :: l, p, h => by
    simp only [cellsP] at h
    split at h
    · rename_i a b ha hb
      split at h
      · rename_i r q hr hq
        have h := Option.some.inj h
        subst h
        obtain ⟨r', h1, h2⟩ := pP_eq hr
        obtain ⟨q', h3, h4⟩ := cellsP_eq hq
        refine ⟨r' && q', by simp only [cellsEq, ha, hb, h1, h3], ?_⟩
        rw [Bool.and_eq_true, h2, h4]
      · cases h
    · cases h
theorem cellsEq_append {xs ys : Array Value} : ∀ {l m : List (Nat × Nat)} {r : Bool}, cellsEq xs ys (l ++ m) = some r → ∃ p q, cellsEq xs ys l = some p ∧ cellsEq xs ys m = some q ∧ r = (p && q)
  | [], m, r, h => ⟨true, r, rfl, h, by simp⟩
  | (i, t) :: l, m, r, h => by
    simp only [List.cons_append, cellsEq] at h
    split at h
    · rename_i a b ha hb
      split at h
      · rename_i r' q' hr hq
        simp at h
        subst h
        obtain ⟨p, q, h1, h2, rfl⟩ := cellsEq_append hq
        exact ⟨r' && p, q, by simp [cellsEq, ha, hb, hr, h1], h2, by rw [Bool.and_assoc]⟩
      · simp at h
    · simp at h
/-- What a part of an aggregate is. -/
def getPart (P : Program) (t : TypeId) (off : Nat) (xs : Array Value) (v : Value) : Prop := match P.underlying t with
  | some (.struct _) => ∃ n, sizeAt P t = some n ∧ v = .agg (xs.extract off (off + n))
  | _ => xs[off]? = some v
section
variable {P : Program} {w : World}
theorem sizeAt_info {t : TypeId} {n : Nat} (h : sizeAt P t = some n) : ∃ i, P.info? t = some i ∧ i.size = n := by
  unfold sizeAt at h
  cases hi : P.info? t with
  | none => rw [hi] at h; cases h
  | some i => rw [hi] at h; simp at h; exact ⟨i, rfl, h⟩
theorem cellsEq_in {xs ys : Array Value} : ∀ {l : List (Nat × Nat)} {r : Bool}, cellsEq xs ys l = some r → ∀ p ∈ l, (xs[p.1]?).isSome = true ∧ (ys[p.1]?).isSome = true
  | [], r, _, p, hp => by cases hp
  | (i, t) :: l, r, h, p, hp => by
    simp only [cellsEq] at h
    split at h
    · rename_i a b ha hb
      split at h
      · rename_i r' q' hr hq
        rcases List.mem_cons.1 hp with rfl | hp
        · exact ⟨by rw [ha]; rfl, by rw [hb]; rfl⟩
        · exact cellsEq_in hq p hp
      · simp at h
    · simp at h
theorem part_run {d : Nat} {t : TypeId} {off base n s : Nat} {l : List (Nat × Nat)} {xs : Array Value} (hl : primCells P d (base + off) t = some l) (hs : sizeAt P t = some s) (hpos : 0 < s) (hle : off + s ≤ n) (hin : ∀ p ∈ l, (xs[p.1]?).isSome = true) (w : World) :
    ∃ v, (part t (xs.extract base (base + n)) off).run P w = .ok v w ∧ getPart P t (base + off) xs v := by
  cases d with
  | zero => simp [primCells] at hl
  | succ d =>
    have prim : ∀ (tag : Nat), l = [(base + off, tag)] → (∀ fs, P.underlying t ≠ some (.struct fs)) → (isAgg t).run P w = .ok false w → ∃ v, (part t (xs.extract base (base + n)) off).run P w = .ok v w ∧ getPart P t (base + off) xs v := by
      intro tag hlt hns hg
      subst hlt
      have h1 := hin _ (List.mem_cons_self ..)
      obtain ⟨v, hv⟩ := Option.isSome_iff_exists.1 h1
      simp only at hv
      refine ⟨v, ?_, ?_⟩
      · have : (xs.extract base (base + n))[off]? = some v := by
          rw [Array.getElem?_extract, if_pos (by have := (Array.getElem?_eq_some_iff.1 hv).1; omega)]
          exact hv
        simp [part, hg, this]
      · unfold getPart
        split
        · rename_i fs hu
          exact absurd hu (hns fs)
        · exact hv
    simp only [primCells] at hl
    split at hl
    · rename_i k hu
      simp at hl
      exact prim 0 hl.symm (by simp [hu]) (by simp [isAgg, run_underlying hu])
    · rename_i hu
      simp at hl
      exact prim 1 hl.symm (by simp [hu]) (by simp [isAgg, run_underlying hu])
    · rename_i hu
      simp at hl
      exact prim 2 hl.symm (by simp [hu]) (by simp [isAgg, run_underlying hu])
    · rename_i fs hu
      refine ⟨.agg (xs.extract (base + off) (base + off + s)), ?_, ?_⟩
      · simp [part, isAgg, run_underlying hu, size_run hs, Nat.min_eq_left hle, Nat.add_assoc]
      · unfold getPart
        rw [hu]
        exact ⟨s, hs, rfl⟩
    · simp at hl
theorem eq_prim : ∀ (d : Nat) (t : TypeId) (off : Nat) (l : List (Nat × Nat)), primCells P d off t = some l → ∀ D, d ≤ D → ∀ (xs ys : Array Value) (vx vy : Value) (r : Bool), getPart P t off xs vx → getPart P t off ys vy → cellsEq xs ys l = some r →
    (Op.equalIn D t vx vy).run P w = .ok r w
  | 0, t, off, l, h, D, _, xs, ys, vx, vy, r, _, _, _ => by simp [primCells] at h
  | d + 1, t, off, l, h, D, hD, xs, ys, vx, vy, r, hx, hy, hr => by
    obtain ⟨D, rfl⟩ : ∃ E, D = E + 1 := ⟨D - 1, by omega⟩
    have ih := eq_prim d
    have one : ∀ {tag : Nat} {vx vy : Value}, xs[off]? = some vx → ys[off]? = some vy → cellsEq xs ys [(off, tag)] = some r → pEq tag vx vy = some r := by
      intro tag vx vy h1 h2 h3
      simp only [cellsEq, h1, h2] at h3
      cases hp : pEq tag vx vy with
      | none => simp [hp] at h3
      | some q => simp [hp] at h3; rw [h3]
    simp only [primCells] at h
    unfold getPart at hx hy
    split at h
    · rename_i k hu
      simp at h
      subst h
      rw [hu] at hx hy
      have := one hx hy hr
      unfold pEq at this
      split at this
      · split at this
        · rename_i hk
          have hk := of_decide_eq_true hk
          subst hk
          simp at this
          rw [run_equalIn_int w D t _ _ _ _ hu, ← this]
        · simp at this
      all_goals simp_all
    · rename_i hu
      simp at h
      subst h
      rw [hu] at hx hy
      have := one hx hy hr
      unfold pEq at this
      split at this
      · simp_all
      · simp at this
        rw [run_equalIn_bool' w D t _ _ hu, ← this]
      all_goals simp_all
    · rename_i hu
      simp at h
      subst h
      rw [hu] at hx hy
      have := one hx hy hr
      unfold pEq at this
      split at this
      · simp_all
      · simp_all
      · simp at this
        rw [run_equalIn_string w D t _ _ hu, ← this, beq_toListBytes]
      · simp at this
    · rename_i fs hu
      split at h
      · rename_i n hst hn
        rw [hu] at hx hy
        obtain ⟨n1, hn1, rfl⟩ := hx
        obtain ⟨n2, hn2, rfl⟩ := hy
        rw [hn] at hn1 hn2
        simp at hn1 hn2
        subst hn1
        subst hn2
        have hfo : P.fieldsOf t = fs := by simp [Program.fieldsOf, hu]
        rw [run_equalIn_struct w D t _ _ (by rw [hfo]; exact hu) hst, hfo]
        clear hfo hu one hn
        generalize fs.toList = fl at h
        clear fs
        induction fl generalizing l r with
        | nil =>
          simp [primFields] at h
          subst h
          simp [cellsEq] at hr
          subst hr
          simp [Op.eqFields]
        | cons f fl ihf =>
          simp only [primFields] at h
          split at h
          · rename_i s hnm hs
            split at h
            · rename_i a b hle ha hb
              simp at h
              subst h
              obtain ⟨p, q, hp, hq, rfl⟩ := cellsEq_append hr
              simp only [Bool.and_eq_true, Nat.blt_eq] at hle
              have hle1 := Nat.le_of_ble_eq_true hle.1
              obtain ⟨v1, hv1, g1⟩ := part_run (xs := xs) (base := off) (n := n) ha hs hle.2 hle1 (fun z hz => (cellsEq_in hp z hz).1) w
              obtain ⟨v2, hv2, g2⟩ := part_run (xs := ys) (base := off) (n := n) ha hs hle.2 hle1 (fun z hz => (cellsEq_in hp z hz).2) w
              have hrun := ih f.type (off + f.offset) a ha D (by omega) xs ys v1 v2 p g1 g2 hp
              have hne : f.name ≠ "_" := of_decide_eq_false hnm
              simp only [Op.eqFields, if_pos hne, Sem.run_bind, hv1, hv2, hrun, Result.andThen, Sem.run_ite]
              cases p
              · simp
              · simpa using ihf b q hq hb
            · simp at h
          · simp at h
      · simp at h
    · simp at h
variable {N : Nat} {e : Env} {fn : FuncId} {Q : Value → World → Prop} {k : List XI} {l : List XOp} {x y : Operand}
theorem g_eqa {neg : Bool} {n : Nat} {cl : List (Nat × Nat)} {xs ys : Array Value} {r : Bool} (hx : Env.val e x = some (.agg xs)) (hy : Env.val e y = some (.agg ys)) (h1 : xs.size = n) (h2 : ys.size = n) (hr : cellsEq xs ys cl = some r) :
    Gives P N (.eq neg (.agg n cl) x y) e w (.bool (r != neg)) := by
  intro o a hc hA
  obtain ⟨t, yt, ho, hcl⟩ := co_eq hc
  obtain ⟨fs, hu, hg, hs, hp⟩ : ∃ fs, P.underlying t = some (.struct fs) ∧ P.eqGuardType P.depth t = false ∧ sizeAt P t = some n ∧ primCells P 5 0 t = some cl := by
    unfold eqClass at hcl
    split at hcl
    · simp at hcl
    · split at hcl <;> simp at hcl
    · simp at hcl
    · rename_i fs hu
      split at hcl
      · rename_i hg hs hp
        simp at hcl
        obtain ⟨rfl, rfl⟩ := hcl
        exact ⟨fs, hu, hg, hs, hp⟩
      · simp at hcl
    · simp at hcl
  have gp : ∀ {zs : Array Value}, zs.size = n → getPart P t 0 zs (.agg zs) := by
    intro zs hz
    unfold getPart
    rw [hu]
    exact ⟨n, hs, by rw [Nat.zero_add, ← hz, Array.extract_size]⟩
  have heq := eq_prim (w := w) 5 t 0 cl hp 10000 (by decide) xs ys _ _ r (gp h1) (gp h2) hr
  cases neg
  · have hb : (binOp .eql t (.agg xs) (.agg ys)).run P w = .ok (.bool r) w := by rw [run_eql_struct, heq]; rfl
    simp [execOp, ho, hA.val hx, hA.val hy, run_eqGuard_agg (P := P) w .eql t _ _ xs ys hg, hb]
  · have hb : (binOp .neq t (.agg xs) (.agg ys)).run P w = .ok (.bool (!r)) w := by rw [run_neq_struct, heq]; rfl
    simp [execOp, ho, hA.val hx, hA.val hy, run_eqGuard_agg (P := P) w .neq t _ _ xs ys hg, hb]
theorem p_eqa {neg : Bool} {n : Nat} {cl : List (Nat × Nat)} {xs ys : Array Value} {p : Prop} {dst : Option Nat} {g : Option (Nat × Bool)} (hg : wantedE e g = some true) (hx : Env.val e x = some (.agg xs)) (hy : Env.val e y = some (.agg ys)) (h1 : xs.size = n) (h2 : ys.size = n) (hp : cellsP xs ys cl = some p)
    (ht : p → XOps P fn N l k (Env.put e dst (.bool (!neg))) w Q) (hf : ¬ p → XOps P fn N l k (Env.put e dst (.bool neg)) w Q) : XOps P fn N (⟨dst, g, .eq neg (.agg n cl) x y⟩ :: l) k e w Q := by
  obtain ⟨r, hr, hiff⟩ := cellsP_eq hp
  refine p_val hg (g_eqa hx hy h1 h2 hr) ?_
  cases r
  · simpa using hf (fun hq => by simpa using hiff.2 hq)
  · simpa using ht (hiff.1 rfl)
theorem r_eqa {es : List (List Nat)} {B : List Nat} {ws m : Nat} {R : Rec} {todo : List (Nat × XOp)} {i : Nat} {neg : Bool} {n : Nat} {cl : List (Nat × Nat)} {xs ys : Array Value} {p : Prop} {dst : Option Nat} {g : Option (Nat × Bool)} (hr : rdyB es m i = true) (hg : wantedE e g = some true) (hx : Env.val e x = some (.agg xs)) (hy : Env.val e y = some (.agg ys)) (h1 : xs.size = n) (h2 : ys.size = n) (hp : cellsP xs ys cl = some p)
    (ht : p → XDr P fn N es B ws R todo (m ||| 2 ^ i) k (Env.put e dst (.bool (!neg))) w Q) (hf : ¬ p → XDr P fn N es B ws R todo (m ||| 2 ^ i) k (Env.put e dst (.bool neg)) w Q) : XDr P fn N es B ws R ((i, ⟨dst, g, .eq neg (.agg n cl) x y⟩) :: todo) m k e w Q := by
  obtain ⟨r, hr', hiff⟩ := cellsP_eq hp
  refine r_pure hr rfl hg (fun _ => g_eqa hx hy h1 h2 hr') ?_
  cases r
  · simpa using hf (fun hq => by simpa using hiff.2 hq)
  · simpa using ht (hiff.1 rfl)
/-- Two strings are compared. -/
theorem bstr (a b : ByteArray) : (a == b) = true ↔ a = b := ba_beq a b
end

/-! ### rows of structs -/
def rows {α : Type} (enc : α → List Value) (l : List α) : List Value := l.flatMap enc
section
variable {α : Type} {enc : α → List Value} {n : Nat}
theorem rows_length (hn : ∀ x, (enc x).length = n) (l : List α) : (rows enc l).length = l.length * n := by
  unfold rows
  induction l with
  | nil => simp
  | cons x l ih => rw [List.flatMap_cons, List.length_append, hn, ih, List.length_cons, Nat.add_mul]; omega
theorem rows_get (hn : ∀ x, (enc x).length = n) : ∀ {l : List α} {i : Nat} {x : α} {j : Nat}, l[i]? = some x → j < n → (rows enc l)[i * n + j]? = (enc x)[j]?
  | [], i, x, j, h, _ => by simp at h
  | y :: l, 0, x, j, h, hj => by
    simp at h
    subst h
    show (enc y ++ rows enc l)[0 * n + j]? = _
    rw [Nat.zero_mul, Nat.zero_add, List.getElem?_append_left (by rw [hn]; exact hj)]
  | y :: l, i + 1, x, j, h, hj => by
    simp at h
    have ih := rows_get hn (l := l) (i := i) h hj
    show (enc y ++ rows enc l)[(i + 1) * n + j]? = _
    rw [Nat.add_mul, List.getElem?_append_right (by rw [hn]; omega), hn, ← ih]
    congr 1
    omega
theorem rows_append (l m : List α) : rows enc (l ++ m) = rows enc l ++ rows enc m := by simp [rows]
theorem rows_one (x : α) : rows enc [x] = enc x := by simp [rows]
theorem rows_cells (h1 : ∀ x, ∀ u ∈ enc x, u.oneCell' = true) (l : List α) : ∀ u ∈ rows enc l, u.oneCell' = true := by
  intro u hu
  unfold rows at hu
  rw [List.mem_flatMap] at hu
  obtain ⟨x, _, hx⟩ := hu
  exact h1 x u hx
theorem RdS.rlen {w : World} {len cap : Nat} {a : Option Addr} {l : List α} (hn : ∀ x, (enc x).length = n) (hp : 0 < n) (h : RdS w n (.slice a len cap) (rows enc l)) : l.length = len := by
  have := h.len.1
  rw [rows_length hn] at this
  exact Nat.eq_of_mul_eq_mul_right hp this
/-- The cells of an element. -/
theorem RdS.elem {w : World} {len cap b o i : Nat} {l : List α} {x : α} (hn : ∀ x, (enc x).length = n) (h : RdS w n (.slice (some ⟨b, o, none⟩) len cap) (rows enc l)) (hi : l[i]? = some x) : ∀ j u, (enc x)[j]? = some u → w.cell? ⟨b, o + i * n + j, none⟩ = some u := by
  intro j u hj
  have hlt : j < n := by rw [← hn x]; exact (List.getElem?_eq_some_iff.1 hj).1
  have := h.cell (j := i * n + j) (by rw [rows_get hn hi hlt]; exact hj)
  rwa [← Nat.add_assoc] at this
theorem take_next {l : List α} {i : Nat} {x : α} (h : l[i]? = some x) : l.take (i + 1) = l.take i ++ [x] := by
  rw [List.take_add_one, h]; rfl
theorem drop_next {l : List α} {i : Nat} {x : α} (h : l[i]? = some x) : l.drop i = x :: l.drop (i + 1) := by
  obtain ⟨hlt, h⟩ := List.getElem?_eq_some_iff.1 h
  rw [List.drop_eq_getElem_cons hlt, h]
theorem has_elem {l : List α} {i : Nat} (h : i < l.length) : ∃ x, l[i]? = some x := ⟨l[i], List.getElem?_eq_getElem h⟩
end
end Go.HX
