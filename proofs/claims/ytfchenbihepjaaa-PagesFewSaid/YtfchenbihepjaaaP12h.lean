/- Layer 12 (pages): a call on both, of any kind. -/
import Derived.Test.YtfchenbihepjaaaP12g
namespace Go.Proofs.Ytfchenbihepjaaa
open Go Go.HX
set_option maxRecDepth 4000
set_option maxHeartbeats 1000000
/-- What is asked of a call that is played. -/
structure Act12In (W : World) (a : Act12) : Prop where
  ok : Act12Ok a
  ws : ∀ z ∈ a.l, 0 ≤ z ∧ z ≤ 18446744073709551615
  rd : RdS W 1 (.slice a.va a.vl a.vc) (ints .u64 a.l)
theorem act12C_len (a : Act12) : (act12C a).length = 7 := rfl
theorem flat_ints : ∀ l : List Int, (l.map fun n : Int => [Value.int .u64 n]).flatten = ints .u64 l
  | [] => rfl
  | a :: l => by rw [List.map_cons, List.flatten_cons, flat_ints l]; rfl
theorem els_ints {W : World} {els : List (List Value)} (h : ∀ c ∈ els, Arg W (.int .u64) c) : ∃ l : List Int, els.flatten = ints .u64 l ∧ ∀ z ∈ l, 0 ≤ z ∧ z ≤ 18446744073709551615 := by
  obtain ⟨l, rfl, _, hl⟩ := list_of (f := fun n : Int => [Value.int .u64 n]) (p := fun n => 0 ≤ n ∧ n ≤ 18446744073709551615) (fun c hc => by
    obtain ⟨n, e, hw⟩ := h c hc
    exact ⟨n, e, wf_u64 hw⟩)
  exact ⟨l, flat_ints l, hl⟩
theorem arg_act12 {W : World} {cs : List Value} (h : Arg W act12Ty cs) : ∃ a : Act12, cs = act12C a ∧ Act12In W a := by
  obtain ⟨_, _, rfl, ⟨k, rfl, _⟩, _, _, rfl, ⟨p, rfl, hp⟩, _, _, rfl, ⟨a, rfl, ha⟩, _, _, rfl, ⟨n, rfl, _⟩, _, _, rfl, ⟨o, rfl, ho⟩, _, _, rfl, ⟨u, rfl, hu⟩, _, _, rfl, ⟨va, vl, vc, els, rfl, _, _, hr, hall⟩, h⟩ := h
  obtain rfl : _ = [] := h
  obtain ⟨l, e, hl⟩ := els_ints hall
  rw [e] at hr
  exact ⟨⟨k, p, a, n, o, u, va, vl, vc, l⟩, rfl, ⟨wf_i64 hp, wf_u64 ha, wf_u64 ho, wf_u64 hu⟩, hl, hr⟩
section
variable {S : SP} {w : World} {G : List HProp}

theorem law12_does_spec {b c d mb : Nat} {x : BufM} {os : List OneM} {lv : Value} {bits fr : Int} {a : Act12} (hb : bits = x.bits) (hfr : fr = x.hr.ws.length) (ha : Act12Ok a) (hal : ∀ z ∈ a.l, 0 ≤ z ∧ z ≤ 18446744073709551615) (hL : Old S 1 (.slice a.va a.vl a.vc) (ints .u64 a.l)) (hr : Rel12 x os) (h : Sat S w (pt b (.cells (bufC (x) c d) T.pages_Buffer (0, 0)) :: isRow c (x).wr :: isRow d (x).hr :: pt mb (.cells #[.int .i64 bits, .int .i64 fr, lv] T.haycroftref12_Buffer (0, 0)) :: ownS T.haycroftref12_One 2 lv (rows oneC (os)) :: bigH oneH os :: G)) :
    Ret Try.prog F.law12_does #[.pointer (some ⟨b, 0, none⟩), .pointer (some ⟨mb, 0, none⟩), .agg (act12C a).toArray] w (fun v w' => v = .bool true ∧ ∃ x' os' lv, Rel12 x' os' ∧ x'.bits = x.bits ∧ x'.hr.ws.length = x.hr.ws.length ∧ Sat S w' (pt b (.cells (bufC (x') c d) T.pages_Buffer (0, 0)) :: isRow c (x').wr :: isRow d (x').hr :: pt mb (.cells #[.int .i64 bits, .int .i64 fr, lv] T.haycroftref12_Buffer (0, 0)) :: ownS T.haycroftref12_One 2 lv (rows oneC (os')) :: bigH oneH os' :: G)) := by
  by_cases k1 : a.kind = 1
  · exact law12_does_open hb hfr k1 ha hr h
  by_cases k2 : a.kind = 2
  · exact law12_does_close k2 ha hr h
  by_cases k3 : a.kind = 3
  · exact (law12_does_load hb k3 ha hr h).mono fun _ _ ⟨e, h⟩ => ⟨e, x, os, lv, hr, rfl, rfl, h⟩
  by_cases k4 : a.kind = 4
  · exact law12_does_store hb k4 ha hr h
  by_cases k5 : a.kind = 5
  · exact law12_does_cas hb k5 ha hr h
  by_cases k6 : a.kind = 6
  · exact (law12_does_words hb k6 ha hr h).mono fun _ _ ⟨e, h⟩ => ⟨e, x, os, lv, hr, rfl, rfl, h⟩
  by_cases k7 : a.kind = 7
  · exact law12_does_fill hb k7 ha hal (fun _ _ h => hL _ _ h) hr h
  by_cases k8 : a.kind = 8
  · exact (law12_does_page k8 ha hr h).mono fun _ _ ⟨e, h⟩ => ⟨e, x, os, lv, hr, rfl, rfl, h⟩
  exact (law12_does_else (by omega) ha hr h).mono fun _ _ ⟨e, h⟩ => ⟨e, x, os, lv, hr, rfl, rfl, h⟩
end
theorem Rel12.hz {x : BufM} {os : List OneM} (h : Rel12 x os) : ∀ z ∈ x.hr.ws, z ≤ 9223372036854775808 := fun z hz => by
  obtain ⟨f, hf⟩ := List.mem_iff_getElem?.1 hz
  have hl := (List.getElem?_eq_some_iff.1 hf).1
  have e : x.hr.ws.getD f 0 = z := by rw [List.getD_eq_getElem?_getD, hf]; rfl
  rcases h.fm f hl with h1 | ⟨o, ho, _, h2⟩
  · omega
  · have := (h.pg o ho).2.1; omega
theorem pagesIn_noughts : ∀ n : Nat, pagesIn (List.replicate n 0) = []
  | 0 => rfl
  | n + 1 => by
    show pagesIn (0 :: List.replicate n 0) = []
    rw [pagesIn_cons, pagesIn_noughts n]
    rfl
theorem rel_start {bits n : Int} (hb : 5 ≤ bits ∧ bits ≤ 9) (hn : 2 ≤ n ∧ n ≤ 8) : Rel12 (buf0 bits n) [] ∧ (buf0 bits n).bits = bits ∧ ((buf0 bits n).hr.ws.length : Int) = n := by
  refine ⟨⟨buf0_ok hb hn, ?_, List.Pairwise.nil, fun o ho => (by cases ho), fun o ho => (by cases ho), fun f hf => .inl ?_⟩, rfl, ?_⟩
  · unfold buf0
    rw [pagesIn_noughts]
    exact List.Perm.refl _
  · show (List.replicate n.toNat (0 : Int)).getD f 0 = 0
    rw [List.getD_eq_getElem?_getD, List.getElem?_replicate]
    split <;> rfl
  · show ((List.replicate n.toNat (0 : Int)).length : Int) = n
    rw [List.length_replicate]
    omega
/-- Two pages that are in are in two frames. -/
theorem Rel12.apart {x : BufM} {os : List OneM} (h : Rel12 x os) {i j : Nat} {o y : OneM} (ho : os[i]? = some o) (hy : os[j]? = some y) (hij : i < j) : x.frame o.page ≠ x.frame y.page := fun e => by
  have h1 := (h.pg o (List.mem_of_getElem? ho)).2.2
  have h2 := (h.pg y (List.mem_of_getElem? hy)).2.2
  rw [e, h2] at h1
  obtain ⟨il, eo⟩ := List.getElem?_eq_some_iff.1 ho
  obtain ⟨jl, ey⟩ := List.getElem?_eq_some_iff.1 hy
  have := List.pairwise_iff_getElem.1 h.up i j il jl hij
  rw [eo, ey] at this
  omega
end Go.Proofs.Ytfchenbihepjaaa
