/- HX, part J: arguments of any plain type, read. -/
import Derived.Test.YtjoicobfjpaepaaHxI
import Derived.ChangeArms
namespace Go.HX
open Go Go.RowKit

inductive Ty where
  | int (k : IntKind)
  | bool
  | str
  | sl (e : Ty)
  | st (f : Ty)
  | unit
  | pair (a b : Ty)
def Ty.size : Ty → Nat
  | .int _ | .bool | .str | .sl _ => 1
  | .st f => f.size
  | .unit => 0
  | .pair a b => a.size + b.size
def Arg (W : World) : Ty → List Value → Prop
  | .int k, cs => ∃ n, cs = [.int k n] ∧ (Lit.int k n).wf = true
  | .bool, cs => ∃ b, cs = [.bool b]
  | .str, cs => ∃ s : ByteArray, cs = [.string s] ∧ s.size ≤ maxLen
  | .sl e, cs => ∃ (a : Option Addr) (len cap : Nat) (els : List (List Value)), cs = [.slice a len cap] ∧ cap ≤ maxLen ∧ els.length = len ∧ RdS W e.size (.slice a len cap) els.flatten ∧ ∀ c ∈ els, Arg W e c
  | .st f, cs => Arg W f cs
  | .unit, cs => cs = []
  | .pair a b, cs => ∃ x y, cs = x ++ y ∧ Arg W a x ∧ Arg W b y
theorem Arg.length {W : World} : ∀ {t : Ty} {cs : List Value}, Arg W t cs → cs.length = t.size
  | .int k, cs, ⟨_, h, _⟩ => by rw [h]; rfl
  | .bool, cs, ⟨_, h⟩ => by rw [h]; rfl
  | .str, cs, ⟨_, h, _⟩ => by rw [h]; rfl
  | .sl e, cs, ⟨_, _, _, _, h, _⟩ => by rw [h]; rfl
  | .st f, cs, h => Arg.length (t := f) h
  | .unit, cs, h => by rw [show cs = [] from h]; rfl
  | .pair a b, cs, ⟨x, y, h, ha, hb⟩ => by rw [h, List.length_append, ha.length, hb.length]; rfl
def tyIs (P : Program) : Ty → (TypeId ⊕ (List Field × Nat)) → Bool
  | .int k, .inl t => match P.underlying t with
    | some (.int k') => decide (k = k')
    | _ => false
  | .bool, .inl t => match P.underlying t with
    | some .bool => true
    | _ => false
  | .str, .inl t => match P.underlying t with
    | some .string => true
    | _ => false
  | .sl e, .inl t => match P.underlying t with
    | some (.slice el) => Nat.beq (P.cellsOf el) e.size && Nat.blt 0 e.size && tyIs P e (.inl el)
    | _ => false
  | .st f, .inl t => match P.underlying t with
    | some (.struct fs) => Nat.beq (P.cellsOf t) f.size && tyIs P f (.inr (fs.toList, 0))
    | _ => false
  | .unit, .inr ([], _) => true
  | .pair a b, .inr (f :: fs, off) => Nat.beq f.offset off && Nat.beq (P.cellsOf f.type) a.size && tyIs P a (.inl f.type) && tyIs P b (.inr (fs, off + a.size))
  | _, _ => false
theorem flatten_get {α : Type} {n : Nat} : ∀ {els : List (List α)} (_ : ∀ c ∈ els, c.length = n) {k : Nat} {u : α}, els.flatten[k]? = some u → ∃ i j c, els[i]? = some c ∧ c[j]? = some u ∧ k = i * n + j
  | [], _, k, u, h => by simp at h
  | c :: els, hl, k, u, h => by
    rw [List.flatten_cons] at h
    have hc := hl c (List.mem_cons_self ..)
    by_cases hk : k < c.length
    · rw [List.getElem?_append_left hk] at h
      exact ⟨0, k, c, rfl, h, by simp⟩
    · rw [List.getElem?_append_right (by omega)] at h
      obtain ⟨i, j, d, h1, h2, h3⟩ := flatten_get (fun c' h' => hl c' (List.mem_cons_of_mem _ h')) h
      refine ⟨i + 1, j, d, by simpa using h1, h2, ?_⟩
      rw [Nat.add_mul]
      omega
theorem flatten_length {α : Type} {n : Nat} : ∀ {els : List (List α)}, (∀ c ∈ els, c.length = n) → els.flatten.length = els.length * n
  | [], _ => by simp
  | c :: els, hl => by
    rw [List.flatten_cons, List.length_append, hl c (List.mem_cons_self ..), flatten_length (fun c' h' => hl c' (List.mem_cons_of_mem _ h')), List.length_cons, Nat.add_mul]
    omega
theorem mapM_at {α β : Type} {f : α → Option β} : ∀ {l : List α} {r : List β}, l.mapM f = some r → r.length = l.length ∧ ∀ (i : Nat) x, l[i]? = some x → ∃ y, r[i]? = some y ∧ f x = some y
  | [], r, h => by simp at h; subst h; exact ⟨rfl, fun i x hx => by simp at hx⟩
  | a :: l, r, h => by
    rw [List.mapM_cons] at h
    cases ha : f a with
    | none => simp [ha] at h
    | some b =>
      cases has : l.mapM f with
      | none => simp [ha, has] at h
      | some bs =>
        simp [ha, has] at h
        subst h
        obtain ⟨h1, h2⟩ := mapM_at has
        refine ⟨by simp [h1], fun i x hx => ?_⟩
        cases i with
        | zero => simp at hx; subst hx; exact ⟨b, rfl, ha⟩
        | succ i => simp at hx; obtain ⟨y, h3, h4⟩ := h2 i x hx; exact ⟨y, by simpa using h3, h4⟩
theorem cells_at {w : World} {base n : Nat} {a : Addr} {cs : List Value} (h : w.cells? base a n = some cs) : cs.length = n ∧ ∀ j u, cs[j]? = some u → w.cell? (a.add j) = some u := by
  unfold World.cells? at h
  split at h
  · obtain ⟨h1, h2⟩ := mapM_at h
    rw [List.length_range] at h1
    refine ⟨h1, fun j u hj => ?_⟩
    have hlt : j < n := by rw [← h1]; exact (List.getElem?_eq_some_iff.1 hj).1
    obtain ⟨y, h3, h4⟩ := h2 j j (by rw [List.getElem?_range hlt])
    rw [hj] at h3
    injection h3 with h3
    rw [h3]; exact h4
  · cases h
theorem spot_none {w : World} {a : Addr} {u : Value} (h : w.cell? a = some u) : a.spot = none := by
  unfold World.cell? at h
  split at h
  · split at h
    · cases h
    · rename_i hs
      simpa using hs
  · cases h
theorem addr_eta {a : Addr} (h : a.spot = none) (n : Nat) : a.add n = ⟨a.block, a.off + n, none⟩ := by
  cases a; simp at h; subst h; exact addr_add _ _ _

section
variable {H : Type} {enc : TypeId × Value → H} {P : Program} {W : World} {base : Nat} {spare : Nat → Bool} {held : Bool}
theorem arg_of_trod : ∀ (ty : Ty), (∀ t fuel cs x, tyIs P ty (.inl t) = true → DataW.trod enc P W base spare held fuel t cs = some x → Arg W ty cs) ∧
    (∀ (fs : List Field) (off : Nat) (cs : List Value), tyIs P ty (.inr (fs, off)) = true → (∀ (i : Nat) (f : Field), fs[i]? = some f → ∃ m x, DataW.trod enc P W base spare held m f.type ((cs.drop f.offset).take (P.cellsOf f.type)) = some x) → cs.length = off + ty.size → Arg W ty (cs.drop off))
  | .int k => by
    refine ⟨fun t fuel cs x h hd => ?_, fun fs off cs h => by simp [tyIs] at h⟩
    simp only [tyIs] at h
    split at h
    · rename_i k' hu
      have hk := of_decide_eq_true h
      subst hk
      obtain ⟨n, h1, _, h2⟩ := DataW.trod_int hu hd
      exact ⟨n, h1, h2⟩
    · cases h
  | .bool => by
    refine ⟨fun t fuel cs x h hd => ?_, fun fs off cs h => by simp [tyIs] at h⟩
    simp only [tyIs] at h
    split at h
    · rename_i hu
      obtain ⟨n, h1, _⟩ := DataW.trod_bool hu hd
      exact ⟨n, h1⟩
    · cases h
  | .str => by
    refine ⟨fun t fuel cs x h hd => ?_, fun fs off cs h => by simp [tyIs] at h⟩
    simp only [tyIs] at h
    split at h
    · rename_i hu
      obtain ⟨n, h1, _, h2⟩ := DataW.trod_string hu hd
      exact ⟨n, h1, h2⟩
    · cases h
  | .sl e => by
    refine ⟨fun t fuel cs x h hd => ?_, fun fs off cs h => by simp [tyIs] at h⟩
    have ih := (arg_of_trod e).1
    simp only [tyIs] at h
    split at h
    · rename_i el hu
      simp only [Bool.and_eq_true] at h
      obtain ⟨⟨h1, h2⟩, h3⟩ := h
      have hc : P.cellsOf el = e.size := Nat.eq_of_beq_eq_true h1
      have hp : 0 < e.size := by simpa [Nat.blt_eq] using h2
      rcases DataW.trod_slice hu hd with ⟨rfl, _⟩ | ⟨a, len, cap, elems, rest, n, _, rfl, _, _, hlc, hcm, hel, hat, _, _⟩
      · exact ⟨none, 0, 0, [], rfl, Nat.zero_le _, rfl, RdS.nil W _, fun c hc => by cases hc⟩
      · rw [hc] at hat
        have each : ∀ i, i < len → ∃ c, W.cells? base (a.add (i * e.size)) e.size = some c ∧ Arg W e c := by
          intro i hi
          have h4 := hat i hi
          rw [List.getElem?_eq_getElem (by omega)] at h4
          obtain ⟨c, h5, h6⟩ := Option.bind_eq_some_iff.1 h4
          exact ⟨c, h5, ih el n c _ h3 h6⟩
        have ex : ∃ els : List (List Value), els.length = len ∧ ∀ (i : Nat) c, els[i]? = some c → W.cells? base (a.add (i * e.size)) e.size = some c ∧ Arg W e c := by
          have : ∀ m, m ≤ len → ∃ els : List (List Value), els.length = m ∧ ∀ (i : Nat) c, els[i]? = some c → W.cells? base (a.add (i * e.size)) e.size = some c ∧ Arg W e c := by
            intro m
            induction m with
            | zero => exact fun _ => ⟨[], rfl, fun i c h => by simp at h⟩
            | succ m ihm =>
              intro hm
              obtain ⟨els, h4, h5⟩ := ihm (by omega)
              obtain ⟨c, h6, h7⟩ := each m (by omega)
              refine ⟨els ++ [c], by simp [h4], fun i d hd => ?_⟩
              rw [List.getElem?_append] at hd
              split at hd
              · exact h5 i d hd
              · have : i - els.length = 0 := by
                  rcases Nat.eq_zero_or_pos (i - els.length) with h0 | h0
                  · exact h0
                  · rw [List.getElem?_eq_none (by simp; omega)] at hd; cases hd
                rw [this] at hd
                simp at hd
                subst hd
                obtain rfl : i = m := by omega
                exact ⟨h6, h7⟩
          exact this len (Nat.le_refl _)
        obtain ⟨els, h4, h5⟩ := ex
        have harg : ∀ c ∈ els, Arg W e c := fun c hc => by
          obtain ⟨i, hi⟩ := List.getElem?_of_mem hc
          exact (h5 i c hi).2
        have hlen : ∀ c ∈ els, c.length = e.size := fun c hc => (harg c hc).length
        refine ⟨some a, len, cap, els, rfl, hcm, h4, ⟨some a, len, cap, rfl, hlc, by rw [flatten_length hlen, h4], fun hpos => ?_⟩, harg⟩
        have hspot : a.spot = none := by
          obtain ⟨c, h6, h7⟩ := each 0 hpos
          have hcl := h7.length
          obtain ⟨_, h8⟩ := cells_at h6
          have h9 := h8 0 c[0] (List.getElem?_eq_getElem (by omega))
          have := spot_none h9
          cases a
          simp only [Addr.add] at this
          (repeat' split at this) <;> simp_all
        refine ⟨a.block, a.off, by cases a; simp_all, fun j u hj => ?_⟩
        obtain ⟨i, j', c, h6, h7, rfl⟩ := flatten_get hlen hj
        obtain ⟨_, h8⟩ := cells_at (h5 i c h6).1
        have h9 := h8 j' u h7
        rw [addr_eta hspot] at h9
        rw [addr_add] at h9
        rw [← Nat.add_assoc]
        exact h9
    · cases h
  | .st f => by
    refine ⟨fun t fuel cs x h hd => ?_, fun fs off cs h => by simp [tyIs] at h⟩
    have ih := (arg_of_trod f).2
    simp only [tyIs] at h
    split at h
    · rename_i fs hu
      simp only [Bool.and_eq_true] at h
      obtain ⟨h1, h2⟩ := h
      obtain ⟨xs, n, _, _, hl, hxl, hat⟩ := DataW.trod_struct hu hd
      have := ih fs.toList 0 cs h2 (fun i g hg => by
        have h3 := hat i g (by simpa using hg)
        have hi : i < fs.size := by have := (List.getElem?_eq_some_iff.1 hg).1; simpa using this
        rw [List.getElem?_eq_getElem (by omega)] at h3
        exact ⟨n, _, h3⟩) (by rw [hl, Nat.zero_add]; exact Nat.eq_of_beq_eq_true h1)
      exact (by simpa using this : Arg W f cs)
    · cases h
  | .unit => by
    refine ⟨fun t fuel cs x h => by simp [tyIs] at h, fun fs off cs h hf hl => ?_⟩
    show cs.drop off = []
    rw [List.drop_eq_nil_iff]
    simp [Ty.size] at hl
    omega
  | .pair a b => by
    have iha := (arg_of_trod a).1
    have ihb := (arg_of_trod b).2
    refine ⟨fun t fuel cs x h => by simp [tyIs] at h, fun fs off cs h hf hl => ?_⟩
    cases fs with
    | nil => simp [tyIs] at h
    | cons f fs =>
      simp only [tyIs, Bool.and_eq_true] at h
      obtain ⟨⟨⟨h1, h2⟩, h3⟩, h4⟩ := h
      have ho : f.offset = off := Nat.eq_of_beq_eq_true h1
      have hs : P.cellsOf f.type = a.size := Nat.eq_of_beq_eq_true h2
      simp only [Ty.size] at hl
      obtain ⟨m, x, h5⟩ := hf 0 f rfl
      rw [ho, hs] at h5
      have h6 := ihb fs (off + a.size) cs h4 (fun i g hg => hf (i + 1) g (by simpa using hg)) (by omega)
      refine ⟨(cs.drop off).take a.size, cs.drop (off + a.size), ?_, iha f.type m _ x h3 h5, h6⟩
      rw [← List.drop_drop, List.take_append_drop]
theorem Arg.of {t : TypeId} (ty : Ty) {v : Value} {d : DataW H} {ps : List MemPlace} (h : DataW.Trod enc P W base spare held t v d ps) (ht : tyIs P ty (.inl t) = true) : Arg W ty v.cells.toList := by
  obtain ⟨fuel, h⟩ := h
  exact (arg_of_trod ty).1 t fuel _ _ ht h
end
/-- What was read at the beginning reads alike. -/
theorem RdS.later {W w : World} {n : Nat} {v : Value} {cs : List Value} {G : List HProp} (h : RdS W n v cs) (hs : Sat ⟨W.heap.size, W⟩ w G) : RdS w n v cs := by
  obtain ⟨a, len, cap, rfl, h1, h2, h3⟩ := h
  refine ⟨a, len, cap, rfl, h1, h2, fun hpos => ?_⟩
  obtain ⟨b, o, rfl, h4⟩ := h3 hpos
  refine ⟨b, o, rfl, fun j u hj => ?_⟩
  have h5 := h4 j u hj
  have hlt := block_of_cell h5
  have := hs.old (b := b) hlt
  rw [cell_same (w := W) (a := ⟨b, o + j, none⟩) this]
  exact h5
/-- A list of elements that are each made of one thing. -/
theorem list_of {α : Type} {f : α → List Value} {p : α → Prop} : ∀ {els : List (List Value)}, (∀ c ∈ els, ∃ x, c = f x ∧ p x) → ∃ l : List α, els = l.map f ∧ l.length = els.length ∧ ∀ x ∈ l, p x
  | [], _ => ⟨[], rfl, rfl, fun x hx => by cases hx⟩
  | c :: els, h => by
    obtain ⟨x, hx, hp⟩ := h c (List.mem_cons_self ..)
    obtain ⟨l, h1, h2, h3⟩ := list_of (fun c' hc' => h c' (List.mem_cons_of_mem _ hc'))
    refine ⟨x :: l, by rw [hx, h1]; rfl, by simp [h2], fun y hy => ?_⟩
    rcases List.mem_cons.1 hy with rfl | hy
    · exact hp
    · exact h3 y hy
end Go.HX
