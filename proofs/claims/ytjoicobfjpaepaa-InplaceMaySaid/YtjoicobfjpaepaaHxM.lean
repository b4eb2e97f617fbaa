/- HX, part M: reading elements, boxes; drawn regions' writers. -/
import Derived.Test.YtjoicobfjpaepaaHxL
namespace Go.HX
open Go Go.RowKit
/-- What reads alike in each later world. -/
def Old (S : SP) (n : Nat) (v : Value) (cs : List Value) : Prop := ∀ G w, Sat S w G → RdS w n v cs
section
variable {P : Program} {fn : FuncId} {N : Nat} {e : Env} {w w' : World} {Q : Value → World → Prop} {k : List XI} {l : List XOp}
variable {S : SP} {G G' : List HProp} {x y : Operand}
variable {es : List (List Nat)} {B : List Nat} {ws m : Nat} {R : Rec} {todo : List (Nat × XOp)} {i0 : Nat} {dst : Option Nat} {g : Option (Nat × Bool)}
variable {α : Type} {enc : α → List Value} {n : Nat}

theorem g_lda {b : Nat} {c : Array Value} {E : TypeId} {fr : Nat × Nat} (hx : Env.val e x = some (.pointer (some ⟨b, 0, none⟩))) (hn : c.size = n) (hc : w.heap[b]? = some (.cells c E fr)) : Gives P N (.ld x (some n)) e w (.agg c) := by
  have := g_ldn (P := P) (N := N) (w := w) (vs := c.toList) hx (by simpa using hn) (fun j u hj => by rw [Nat.zero_add]; exact cell_of_heap hc (by simpa using hj))
  simpa using this
theorem r_lda {b : Nat} {c : Array Value} {E : TypeId} {fr : Nat × Nat} (hr : rdyB es m i0 = true) (hg : wantedE e g = some true) (hx : Env.val e x = some (.pointer (some ⟨b, 0, none⟩))) (hn : c.size = n) (hc : w.heap[b]? = some (.cells c E fr))
    (h : XDr P fn N es B ws ((i0, fun w => w.heap[b]? = some (.cells c E fr)) :: R) todo (m ||| 2 ^ i0) k (Env.put e dst (.agg c)) w Q) : XDr P fn N es B ws R ((i0, ⟨dst, g, .ld x (some n)⟩) :: todo) m k e w Q :=
  r_take hr rfl (.inl ⟨hg, fun _ hc => g_lda hx hn hc⟩) hc h
/-- A whole element, a field of one. -/
theorem g_ldE {b o q i len cap : Nat} {l : List α} {a : α} (hn : ∀ x, (enc x).length = n) (hx : Env.val e x = some (.pointer (some ⟨b, q, none⟩))) (h : RdS w n (.slice (some ⟨b, o, none⟩) len cap) (rows enc l)) (hi : l[i]? = some a) (hq : q = o + i * n) :
    Gives P N (.ld x (some n)) e w (.agg (enc a).toArray) := by
  subst hq
  exact g_ldn hx (hn a) (h.elem hn hi)
theorem g_ldF {b o q i f len cap : Nat} {l : List α} {a : α} {u : Value} (hn : ∀ x, (enc x).length = n) (hx : Env.val e x = some (.pointer (some ⟨b, q, none⟩))) (h : RdS w n (.slice (some ⟨b, o, none⟩) len cap) (rows enc l)) (hi : l[i]? = some a) (hf : (enc a)[f]? = some u) (hq : q = o + i * n + f) :
    Gives P N (.ld x none) e w u := by
  subst hq
  exact g_ld hx (h.elem hn hi f u hf)
/-- A part of an element: a struct in a struct. -/
theorem g_ldP {b o q i f s len cap : Nat} {l : List α} {a : α} {us : List Value} (hn : ∀ x, (enc x).length = n) (hx : Env.val e x = some (.pointer (some ⟨b, q, none⟩))) (h : RdS w n (.slice (some ⟨b, o, none⟩) len cap) (rows enc l)) (hi : l[i]? = some a) (hs : us.length = s) (hf : ∀ j u, us[j]? = some u → (enc a)[f + j]? = some u) (hq : q = o + i * n + f) :
    Gives P N (.ld x (some s)) e w (.agg us.toArray) := by
  subst hq
  refine g_ldn hx hs (fun j u hj => ?_)
  have := h.elem hn hi (f + j) u (hf j u hj)
  rwa [← Nat.add_assoc] at this
/-- A read of what stands for ever. -/
theorem r_old {xo : XO} {v : Value} (hr : rdyB es m i0 = true) (hw : isWX xo = false) (hg : wantedE e g = some true) (h : Sat S w G) (hv : ∀ G w, Sat S w G → Gives P N xo e w v)
    (hn : XDr P fn N es B ws ((i0, fun w => ∃ G, Sat S w G) :: R) todo (m ||| 2 ^ i0) k (Env.put e dst v) w Q) : XDr P fn N es B ws R ((i0, ⟨dst, g, xo⟩) :: todo) m k e w Q :=
  r_take hr hw (.inl ⟨hg, fun w ⟨G, h⟩ => hv G w h⟩) ⟨G, h⟩ hn
/-- A read that is told by what is owned. -/
theorem r_own {xo : XO} {v : Value} (hr : rdyB es m i0 = true) (hw : isWX xo = false) (hg : wantedE e g = some true) (h : Sat S w G) (hv : ∀ w, Sat S w G → Gives P N xo e w v)
    (hn : XDr P fn N es B ws ((i0, fun w => Sat S w G) :: R) todo (m ||| 2 ^ i0) k (Env.put e dst v) w Q) : XDr P fn N es B ws R ((i0, ⟨dst, g, xo⟩) :: todo) m k e w Q :=
  r_take hr hw (.inl ⟨hg, fun w h => hv w h⟩) h hn
/-- A literal of a slice. -/
theorem d_lit {E : TypeId} {sz ln : Nat} {z : List Value} {ps : List (Nat × Operand)} {vs : List (Nat × Value)} (cs : List Value) (hp : Env.parts e ps = some vs) (hsm : Nat.ble (ln * sz) 16777216 = true) (hz : (Nat.beq z.length sz && Nat.blt 0 sz) = true)
    (hf : fillL (fun i => some (i * sz, sz)) (zerosA z ln) vs = some cs) (hl : Nat.beq cs.length (ln * sz) = true) (h : Sat S w G) : Does P N (.bsl E sz ln z ps) e w (fun v w' => Sat S w' (ownS E sz v cs :: G)) := by
  simp only [Bool.and_eq_true, Nat.blt_eq] at hz
  have hzl : z.length = sz := Nat.eq_of_beq_eq_true hz.1
  have hln : ln ≤ 16777216 := by
    have := Nat.le_of_ble_eq_true hsm
    exact Nat.le_trans (Nat.le_mul_of_pos_right _ hz.2) this
  have hz' : ln * sz ≠ 0 ∨ ln = 0 := by
    rcases Nat.eq_zero_or_pos ln with h0 | h0
    · exact .inr h0
    · exact .inl (fun h1 => by rcases Nat.mul_eq_zero.1 h1 with h2 | h2 <;> omega)
  have hzz : bslZ z (ln * sz) = (zerosA z ln).toArray := by
    unfold bslZ
    rw [← hzl]
    exact mks_zeros z ln (fun h0 => by rw [h0] at hzl; simp at hzl; omega)
  have hf := fill_fillL _ vs _ _ hf
  rw [← hzz] at hf
  have hlen : cs.length = ln * sz := Nat.eq_of_beq_eq_true hl
  refine (d_bsl hp hsm hz' hf h).mono ?_
  rintro _ w' ⟨b, rfl, h'⟩
  refine ownS_shut (spare := []) ?_ hlen (Nat.le_refl _) ?_ (by simp)
  · rw [List.append_nil]; exact h'
  · unfold maxLen
    omega
/-- append of a row that is read. -/
theorem d_appR {E : TypeId} {n by' : Nat} {z : List Value} {s : Operand} {v vx : Value} {cs news : List Value} (hs : Env.val e s = some v) (hx : Env.val e x = some vx) (hz : z.length = n) (hn0 : 0 < n)
    (h : Sat S w (ownS E n v cs :: G)) (hr : RdS w n vx news) (h1 : ∀ u ∈ news, u.oneCell' = true)
    (hsz : (cs.length + news.length) * by' ≤ 140737488355328 * n) (h63 : cs.length + news.length ≤ 9223372036854775807) : Does P N (.app E n by' z s x) e w (fun v' w' => Sat S w' (ownS E n v' (cs ++ news) :: G)) := by
  obtain ⟨a, len, cap, rfl, h2, h3, h4⟩ := hr
  exact d_app hs hx hz hn0 h h3 h4 h1 hsz h63
/-- An owned row: nothing, or a block's. -/
theorem ownS_nil {E : TypeId} {n : Nat} {v : Value} {cs : List Value} (h : Sat S w (ownS E n v cs :: G)) : (v = .slice none 0 0 ∧ cs = []) ∨ ∃ b len cap, v = .slice (some ⟨b, 0, none⟩) len cap := by
  obtain ⟨H, ⟨H1, H2, a, g, d, rfl⟩, ho⟩ := h.own
  rcases a with ⟨rfl, rfl, _⟩ | ⟨b, len, cap, spare, rfl, _⟩
  · exact .inl ⟨rfl, rfl⟩
  · exact .inr ⟨b, len, cap, rfl⟩
/-- An owned row's slice. -/
theorem ownS_slice {E : TypeId} {n : Nat} {v : Value} {cs : List Value} (h : Sat S w G) (hh : Has G (ownS E n v cs) G') : ∃ a len cap, v = .slice a len cap ∧ cs.length = len * n ∧ len ≤ cap := by
  obtain ⟨a, len, cap, rfl, h1, h2, _⟩ := ownS_rd h hh
  exact ⟨a, len, cap, rfl, h2, h1⟩
theorem ownS_cell {E : TypeId} {n : Nat} {v : Value} {cs : List Value} (h : Sat S w G) (hh : Has G (ownS E n v cs) G') : v.oneCell' = true := by
  obtain ⟨_, _, _, rfl, _⟩ := ownS_slice h hh
  rfl
/-- Where an owned row begins. -/
theorem ownS_addr {E : TypeId} {n len cap : Nat} {a : Option Addr} {cs : List Value} (h : Sat S w G) (hh : Has G (ownS E n (.slice a len cap) cs) G') (hl : 0 < len) : ∃ b, a = some ⟨b, 0, none⟩ := by
  obtain ⟨b, _, he, _⟩ := ownS_open (h.pick hh) hl
  exact ⟨b, he⟩
theorem rows_set (hn : ∀ x, (enc x).length = n) : ∀ {l : List α} {i f : Nat} {a a' : α} {u : Value}, l[i]? = some a → (enc a).set f u = enc a' → f < n → (rows enc l).set (i * n + f) u = rows enc (l.set i a')
  | [], i, f, a, a', u, h, _, _ => by simp at h
  | y :: l, 0, f, a, a', u, h, he, hf => by
    simp at h
    subst h
    show (enc y ++ rows enc l).set (0 * n + f) u = enc a' ++ rows enc l
    rw [Nat.zero_mul, Nat.zero_add, List.set_append_left _ _ (by rw [hn]; exact hf), he]
  | y :: l, i + 1, f, a, a', u, h, he, hf => by
    simp at h
    have ih := rows_set hn (l := l) (i := i) h he hf
    show (enc y ++ rows enc l).set ((i + 1) * n + f) u = enc y ++ rows enc (l.set i a')
    rw [Nat.add_mul, List.set_append_right _ _ (by rw [hn]; omega), hn, ← ih]
    congr 2
    omega
/-- A field of an element of an owned row, written. -/
theorem d_stR {E : TypeId} {b q i f len cap : Nat} {l : List α} {a a' : α} {u : Value} {v : Operand} (hn : ∀ x, (enc x).length = n) (hx : Env.val e x = some (.pointer (some ⟨b, q, none⟩))) (hv : Env.val e v = some u) (hu : u.oneCell' = true)
    (h : Sat S w (ownS E n (.slice (some ⟨b, 0, none⟩) len cap) (rows enc l) :: G)) (hi : l[i]? = some a) (he : (enc a).set f u = enc a') (hf : f < n) (hq : q = i * n + f) :
    Does P N (.st x v 1) e w (fun v' w' => v' = undef ∧ Sat S w' (ownS E n (.slice (some ⟨b, 0, none⟩) len cap) (rows enc (l.set i a')) :: G)) := by
  subst hq
  have hxl : l.length = len := (ownS_rd h .here).rlen hn (by omega)
  have hil := (List.getElem?_eq_some_iff.1 hi).1
  obtain ⟨b', spare, hb, h1, h2, h3, h4, h5⟩ := ownS_open h (by omega)
  simp at hb
  subst hb
  have hlt : i * n + f < (rows enc l).length := by
    rw [rows_length hn]
    have : (i + 1) * n ≤ l.length * n := Nat.mul_le_mul_right _ hil
    rw [Nat.add_mul] at this
    omega
  refine (d_st (o := i * n + f) hx hv hu h5 (by simp; omega)).mono ?_
  rintro v' w' ⟨rfl, h6⟩
  refine ⟨rfl, ownS_shut (spare := spare) ?_ (by rw [rows_length hn, List.length_set, hxl]) h2 h3 h4⟩
  have : (rows enc l ++ spare).toArray.setIfInBounds (i * n + f) u = (rows enc (l.set i a') ++ spare).toArray := by
    rw [List.setIfInBounds_toArray, List.set_append_left _ _ hlt, rows_set hn hi he hf]
  rw [this] at h6
  exact h6
theorem rows_split (hn : ∀ x, (enc x).length = n) {l : List α} {i : Nat} {a : α} (hi : l[i]? = some a) (a' : α) : rows enc l = rows enc (l.take i) ++ enc a ++ rows enc (l.drop (i + 1)) ∧ rows enc (l.set i a') = rows enc (l.take i) ++ enc a' ++ rows enc (l.drop (i + 1)) ∧ (rows enc (l.take i)).length = i * n := by
  obtain ⟨hlt, hia⟩ := List.getElem?_eq_some_iff.1 hi
  refine ⟨?_, ?_, by rw [rows_length hn, List.length_take, Nat.min_eq_left (by omega)]⟩
  · conv => lhs; rw [← List.take_append_drop i l, List.drop_eq_getElem_cons hlt, hia]
    simp [rows]
  · rw [List.set_eq_take_append_cons_drop, if_pos hlt]
    simp [rows]
/-- A whole element of an owned row, written. -/
theorem d_stE {E : TypeId} {b q i len cap : Nat} {l : List α} {a a' : α} {u : Value} {v : Operand} (hn : ∀ x, (enc x).length = n) (h1c : ∀ x, ∀ u ∈ enc x, u.oneCell' = true) (hp : 0 < n) (hx : Env.val e x = some (.pointer (some ⟨b, q, none⟩))) (hv : Env.val e v = some u) (hu : u.cells.toList = enc a')
    (h : Sat S w (ownS E n (.slice (some ⟨b, 0, none⟩) len cap) (rows enc l) :: G)) (hi : l[i]? = some a) (hq : q = i * n) :
    Does P N (.st x v n) e w (fun v' w' => v' = undef ∧ Sat S w' (ownS E n (.slice (some ⟨b, 0, none⟩) len cap) (rows enc (l.set i a')) :: G)) := by
  subst hq
  have hxl : l.length = len := (ownS_rd h .here).rlen hn hp
  have hil := (List.getElem?_eq_some_iff.1 hi).1
  obtain ⟨b', spare, hb, h1, h2, h3, h4, h5⟩ := ownS_open h (by omega)
  simp at hb
  subst hb
  obtain ⟨s1, s2, s3⟩ := rows_split (enc := enc) hn hi a'
  have hlt : i * n + n ≤ (rows enc l).length := by
    rw [s1, List.length_append, List.length_append, s3, hn]; omega
  refine (d_stn (o := i * n) hx hv (by rw [← hn a', ← hu, Array.length_toList]) (by rw [hu]; exact h1c a') h5 (by simp; omega)).mono ?_
  rintro v' w' ⟨rfl, h6⟩
  refine ⟨rfl, ownS_shut (spare := spare) ?_ (by rw [rows_length hn, List.length_set, hxl]) h2 h3 h4⟩
  have : setR (rows enc l ++ spare).toArray (i * n) u.cells.toList = (rows enc (l.set i a') ++ spare).toArray := by
    unfold setR
    rw [hu, hn, s2, s1]
    have e1 : (rows enc (l.take i) ++ enc a ++ rows enc (l.drop (i + 1)) ++ spare).take (i * n) = rows enc (l.take i) := by
      rw [List.append_assoc, List.append_assoc, List.take_left' s3]
    have e2 : (rows enc (l.take i) ++ enc a ++ rows enc (l.drop (i + 1)) ++ spare).drop (i * n + n) = rows enc (l.drop (i + 1)) ++ spare := by
      rw [List.append_assoc, List.drop_left' (by rw [List.length_append, s3, hn])]
    simp only [e1, e2]
    simp
  rw [this] at h6
  exact h6
/-- Where several ways meet. -/
theorem x_cut {c : XI} (Mid : Env → World → Prop) (h1 : ∀ k, (∀ e' w', Mid e' w' → XRun P fn N k e' w' Q) → XRun P fn N (c :: k) e w Q) (h2 : ∀ e' w', Mid e' w' → XRun P fn N k e' w' Q) : XRun P fn N (c :: k) e w Q := h1 k h2
theorem x_cutb {c : XI} {id : Nat} (Mid : Env → World → Prop) (h1 : ∀ k, (∀ e' w', Mid e' w' → XRun P fn N k e' w' Q) → XRun P fn N (c :: .blk id :: k) e w Q) (h2 : ∀ e' w', Mid e' w' → XRun P fn N k e' w' Q) : XRun P fn N (c :: .blk id :: k) e w Q := h1 k h2
/-! guards: what kind of operation comes next -/
variable {t : TypeId}
theorem gB (op : BinOp) (h : XOps P fn N (⟨dst, g, .bin op t x y⟩ :: l) k e w Q) : XOps P fn N (⟨dst, g, .bin op t x y⟩ :: l) k e w Q := h
theorem gR (op : BinOp) (h : XDr P fn N es B ws R ((i0, ⟨dst, g, .bin op t x y⟩) :: todo) m k e w Q) : XDr P fn N es B ws R ((i0, ⟨dst, g, .bin op t x y⟩) :: todo) m k e w Q := h
theorem gL {o : Option Nat} (h : XOps P fn N (⟨dst, g, .ld x o⟩ :: l) k e w Q) : XOps P fn N (⟨dst, g, .ld x o⟩ :: l) k e w Q := h
theorem gLR {o : Option Nat} (h : XDr P fn N es B ws R ((i0, ⟨dst, g, .ld x o⟩) :: todo) m k e w Q) : XDr P fn N es B ws R ((i0, ⟨dst, g, .ld x o⟩) :: todo) m k e w Q := h
theorem gO {o : XOp} (h : XOps P fn N (o :: l) k e w Q) : XOps P fn N (o :: l) k e w Q := h
theorem gD {o : Nat × XOp} (h : XDr P fn N es B ws R (o :: todo) m k e w Q) : XDr P fn N es B ws R (o :: todo) m k e w Q := h
theorem gX {c : X} (h : XRun P fn N (.code c :: k) e w Q) : XRun P fn N (.code c :: k) e w Q := h
theorem gC (f : FuncId) {args : List Operand} (h : XOps P fn N (⟨dst, g, .call f args⟩ :: l) k e w Q) : XOps P fn N (⟨dst, g, .call f args⟩ :: l) k e w Q := h
theorem gCR (f : FuncId) {args : List Operand} (h : XDr P fn N es B ws R ((i0, ⟨dst, g, .call f args⟩) :: todo) m k e w Q) : XDr P fn N es B ws R ((i0, ⟨dst, g, .call f args⟩) :: todo) m k e w Q := h
end
end Go.HX
