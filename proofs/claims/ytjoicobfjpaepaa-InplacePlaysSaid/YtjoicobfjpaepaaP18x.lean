/- Layer 18 (inplace): the document's moves. -/
import Derived.Test.YtjoicobfjpaepaaHxS
import Derived.Test.YtjoicobfjpaepaaP18o
namespace Go.Proofs.Ytjoicobfjpaepaa
open Go Go.HX
attribute [local irreducible] Ret XRun XOps XDr XOne Does Gives
set_option maxRecDepth 4000
set_option maxHeartbeats 1000000
-- MACRO WRK(k, ul, ug) = pt mb (.cells (wkC k ul ug).toArray T.haycroftref18_Work (0, 0)) :: ownS T.uint64 1 ul (ints .u64 (k).l) :: ownS T.uint64 1 ug (ints .u64 (k).got)
-- MACRO CEL(c) = pt cb (.cells (celC c lv).toArray T.haycroftref18_Cells (0, 0)) :: ownS T.uint64 1 lv (ints .u64 (c).l)
theorem stC0_P18x {goal next : Prop} (k : next) (hs : Hid next → goal := by (intro k; (first | (refine gS ?_; (first | refine p_do rfl (d_stwL rfl rfl rfl rfl rfl (h.pick (by repeat first | exact .here | apply Has.there)) (by first | (dsimp only [Value.cells]; done) | exact rfl)) ?_ | refine p_do rfl (d_stL rfl rfl rfl (h.pick (by repeat first | exact .here | apply Has.there)) (by first | exact of_decide_eq_true rfl | simp) (by first | (dsimp only [List.set]; done) | exact rfl)) ?_)) | fail); exact k.out)) : goal := hs ⟨k⟩
theorem stD1_P18x {goal next : Prop} (k : next) (hs : Hid next → goal := by (intro k; (first | (refine gSR ?_; (first | refine r_do rfl rfl (d_stwL rfl rfl rfl rfl rfl (h.pick (by repeat first | exact .here | apply Has.there)) (by first | (dsimp only [Value.cells]; done) | exact rfl)) ?_ | refine r_do rfl rfl (d_stL rfl rfl rfl (h.pick (by repeat first | exact .here | apply Has.there)) (by first | exact of_decide_eq_true rfl | simp) (by first | (dsimp only [List.set]; done) | exact rfl)) ?_)) | fail); exact k.out)) : goal := hs ⟨k⟩
theorem int_pred {m : Nat} (h : ¬ m = 0) : (m : Int) - 1 = ((m - 1 : Nat) : Int) := by omega
section
variable {S : SP} {w : World} {G : List HProp}

set_option maxHeartbeats 8000000 in
theorem ref18_Work_read_spec {mb cb : Nat} {k : WkM} {c : CelM} {ul ug lv : Value} (hrd : k.reads = true) (hmv : k.mv ≤ 1000) (hgl : 1 ≤ k.mv → k.got.length ≤ 1000) (hcl : c.l.length ≤ 1000) (h : Sat S w (pt mb (.cells (wkC k ul ug).toArray T.haycroftref18_Work (0, 0)) :: ownS T.uint64 1 ul (ints .u64 (k).l) :: ownS T.uint64 1 ug (ints .u64 (k).got) :: pt cb (.cells (celC c lv).toArray T.haycroftref18_Cells (0, 0)) :: ownS T.uint64 1 lv (ints .u64 (c).l) :: G)) :
    Ret Try.prog F.ref18_Work_read #[.pointer (some ⟨mb, 0, none⟩), .pointer (some ⟨cb, 0, none⟩)] w (fun v w' => v = .int .i64 (k.rd c).1 ∧ ∃ ug', Sat S w' (pt mb (.cells (wkC (k.rd c).2.1 ul ug').toArray T.haycroftref18_Work (0, 0)) :: ownS T.uint64 1 ul (ints .u64 ((k.rd c).2.1).l) :: ownS T.uint64 1 ug' (ints .u64 ((k.rd c).2.1).got) :: pt cb (.cells (celC (k.rd c).2.2 lv).toArray T.haycroftref18_Cells (0, 0)) :: ownS T.uint64 1 lv (ints .u64 ((k.rd c).2.2).l) :: G)) := by
  obtain ⟨rd, ad, n, l, mv, dn, seen, got⟩ := k
  obtain ⟨lk, ct, cl⟩ := c
  obtain ⟨ua, un, uc, rfl, _, _⟩ := ownS_slice h (.there .here)
  obtain ⟨ga, gn, gc, rfl, hgn, _⟩ := ownS_slice h (.there (.there .here))
  obtain ⟨la, ln, lc, rfl, hln, _⟩ := ownS_slice h (.there (.there (.there (.there .here))))
  rw [ints_length, Nat.mul_one] at hgn hln
  simp only at hrd hmv hgl hcl hgn hln
  subst hrd
  refine ret_of is_ref18_Work_read rfl ?_
  by_cases hm : mv = 0
  · subst hm
    cases lk
    · repeat' (first | refine stPs ?_ | (refine stC0_P18x ?_; rintro _ w ⟨rfl, h⟩) | (refine stD1_P18x ?_; rintro _ w ⟨rfl, h⟩ <;> refine nowa ?_) | (refine p_cmp rfl rfl rfl rfl (fun hc => ?_) (fun hc => ?_) <;> simp only [cmpProp] at hc) | (refine r_cmp rfl rfl rfl rfl rfl (fun hc => ?_) (fun hc => ?_) <;> simp only [cmpProp] at hc) | (refine x_drawn rfl ?_; have h := h.drew) | refine x_drawn rfl ?_ | fail)
      refine p_lit [] rfl rfl rfl rfl rfl rfl h (fun v w h => ?_)
      obtain ⟨va, vl, vc, rfl, _, _⟩ := ownS_slice h .here
      repeat' (first | refine stPs ?_ | (refine stC0_P18x ?_; rintro _ w ⟨rfl, h⟩) | (refine stD1_P18x ?_; rintro _ w ⟨rfl, h⟩ <;> refine nowa ?_) | (refine p_cmp rfl rfl rfl rfl (fun hc => ?_) (fun hc => ?_) <;> simp only [cmpProp] at hc) | (refine r_cmp rfl rfl rfl rfl rfl (fun hc => ?_) (fun hc => ?_) <;> simp only [cmpProp] at hc) | (refine x_drawn rfl ?_; have h := h.drew) | refine x_drawn rfl ?_ | fail)
      exact x_ret' is_ref18_Work_read rfl ⟨rfl, _, h.pm5⟩
    · repeat' (first | refine stPs ?_ | (refine stC0_P18x ?_; rintro _ w ⟨rfl, h⟩) | (refine stD1_P18x ?_; rintro _ w ⟨rfl, h⟩ <;> refine nowa ?_) | (refine p_cmp rfl rfl rfl rfl (fun hc => ?_) (fun hc => ?_) <;> simp only [cmpProp] at hc) | (refine r_cmp rfl rfl rfl rfl rfl (fun hc => ?_) (fun hc => ?_) <;> simp only [cmpProp] at hc) | (refine x_drawn rfl ?_; have h := h.drew) | refine x_drawn rfl ?_ | fail)
      exact x_ret' is_ref18_Work_read rfl ⟨rfl, _, h.pm5⟩
  · have hgl := hgl (by omega)
    by_cases hlt : mv - 1 < cl.length
    · have e : WkM.rd ⟨true, ad, n, l, mv, dn, seen, got⟩ ⟨lk, ct, cl⟩ = (1, ⟨true, ad, n, l, mv + 1, dn, seen, got ++ [cl.getD (mv - 1) 0]⟩, ⟨lk, ct, cl⟩) := by unfold WkM.rd; rw [if_neg hm, if_pos hlt]
      rw [e]
      obtain ⟨lo, rfl⟩ := ownS_addr (E := T.uint64) h (.there (.there (.there (.there .here)))) (by omega)
      repeat' (first | (refine gLR ?_; refine r_own rfl rfl rfl h (fun w h => g_ldI (i := mv - 1) rfl (ownS_rd h (.there (.there (.there (.there .here))))) (by dsimp only; omega) (by omega)) ?_) | refine stP ?_ | (refine stC0_P18x ?_; rintro _ w ⟨rfl, h⟩) | (refine stD1_P18x ?_; rintro _ w ⟨rfl, h⟩ <;> refine nowa ?_) | (refine p_cmp rfl rfl rfl rfl (fun hc => ?_) (fun hc => ?_) <;> simp only [cmpProp] at hc) | (refine r_cmp rfl rfl rfl rfl rfl (fun hc => ?_) (fun hc => ?_) <;> simp only [cmpProp] at hc) | (refine x_drawn rfl ?_; have h := h.drew) | refine x_drawn rfl ?_ | fail)
      refine r_do rfl rfl (d_lit [.int .u64 (cl.getD (mv - 1) 0)] rfl rfl rfl rfl rfl h) ?_
      intro v2 w h
      refine nowa ?_
      refine r_do rfl rfl (d_appR rfl rfl rfl (by decide) (h.pick (.there (.there (.there .here)))) (ownS_rd h .here) (by simp [Value.oneCell']) (by rw [ints_length]; simp; omega) (by rw [ints_length]; simp; omega)) ?_
      intro v3 w h
      refine nowa ?_
      obtain ⟨va, vl, vc, rfl, _, _⟩ := ownS_slice h .here
      rw [show ints .u64 got ++ [.int .u64 (cl.getD (mv - 1) 0)] = ints .u64 (got ++ [cl.getD (mv - 1) 0]) by simp [ints]] at h
      repeat' (first | refine stPs ?_ | (refine stC0_P18x ?_; rintro _ w ⟨rfl, h⟩) | (refine stD1_P18x ?_; rintro _ w ⟨rfl, h⟩ <;> refine nowa ?_) | (refine p_cmp rfl rfl rfl rfl (fun hc => ?_) (fun hc => ?_) <;> simp only [cmpProp] at hc) | (refine r_cmp rfl rfl rfl rfl rfl (fun hc => ?_) (fun hc => ?_) <;> simp only [cmpProp] at hc) | (refine x_drawn rfl ?_; have h := h.drew) | refine x_drawn rfl ?_ | fail)
      exact x_ret' is_ref18_Work_read rfl ⟨rfl, _, h.pm5⟩
    · cases lk
      · by_cases hs : ct = seen
        · have e : WkM.rd ⟨true, ad, n, l, mv, dn, seen, got⟩ ⟨false, ct, cl⟩ = (2, ⟨true, ad, n, l, mv, true, seen, got⟩, ⟨false, ct, cl⟩) := by unfold WkM.rd; rw [if_neg hm, if_neg hlt, if_neg (by simp [hs])]
          rw [e]
          repeat' (first | refine stPs ?_ | (refine stC0_P18x ?_; rintro _ w ⟨rfl, h⟩) | (refine stD1_P18x ?_; rintro _ w ⟨rfl, h⟩ <;> refine nowa ?_) | (refine p_cmp rfl rfl rfl rfl (fun hc => ?_) (fun hc => ?_) <;> simp only [cmpProp] at hc) | (refine r_cmp rfl rfl rfl rfl rfl (fun hc => ?_) (fun hc => ?_) <;> simp only [cmpProp] at hc) | (refine x_drawn rfl ?_; have h := h.drew) | refine x_drawn rfl ?_ | fail)
          exact x_ret' is_ref18_Work_read rfl ⟨rfl, _, h.pm5⟩
        · have e : WkM.rd ⟨true, ad, n, l, mv, dn, seen, got⟩ ⟨false, ct, cl⟩ = (3, ⟨true, ad, n, l, 0, dn, seen, got⟩, ⟨false, ct, cl⟩) := by unfold WkM.rd; rw [if_neg hm, if_neg hlt, if_pos (.inr hs)]
          rw [e]
          repeat' (first | refine stPs ?_ | (refine stC0_P18x ?_; rintro _ w ⟨rfl, h⟩) | (refine stD1_P18x ?_; rintro _ w ⟨rfl, h⟩ <;> refine nowa ?_) | (refine p_cmp rfl rfl rfl rfl (fun hc => ?_) (fun hc => ?_) <;> simp only [cmpProp] at hc) | (refine r_cmp rfl rfl rfl rfl rfl (fun hc => ?_) (fun hc => ?_) <;> simp only [cmpProp] at hc) | (refine x_drawn rfl ?_; have h := h.drew) | refine x_drawn rfl ?_ | fail)
          exact x_ret' is_ref18_Work_read rfl ⟨rfl, _, h.pm5⟩
      · have e : WkM.rd ⟨true, ad, n, l, mv, dn, seen, got⟩ ⟨true, ct, cl⟩ = (3, ⟨true, ad, n, l, 0, dn, seen, got⟩, ⟨true, ct, cl⟩) := by unfold WkM.rd; rw [if_neg hm, if_neg hlt, if_pos (.inl rfl)]
        rw [e]
        repeat' (first | refine stPs ?_ | (refine stC0_P18x ?_; rintro _ w ⟨rfl, h⟩) | (refine stD1_P18x ?_; rintro _ w ⟨rfl, h⟩ <;> refine nowa ?_) | (refine p_cmp rfl rfl rfl rfl (fun hc => ?_) (fun hc => ?_) <;> simp only [cmpProp] at hc) | (refine r_cmp rfl rfl rfl rfl rfl (fun hc => ?_) (fun hc => ?_) <;> simp only [cmpProp] at hc) | (refine x_drawn rfl ?_; have h := h.drew) | refine x_drawn rfl ?_ | fail)
        exact x_ret' is_ref18_Work_read rfl ⟨rfl, _, h.pm5⟩
set_option maxHeartbeats 16000000 in
theorem ref18_Work_Move_spec {mb cb : Nat} {k : WkM} {c : CelM} {ul ug lv : Value} (hmv : k.done = false → k.mv ≤ 1000) (hgl : 1 ≤ k.mv → k.done = false → k.reads = true → k.got.length ≤ 1000) (hcl : c.l.length ≤ 1000) (hcnt : 0 ≤ c.count ∧ c.count < 4294967296) (hll : k.reads = false → k.done = false → 1 ≤ k.mv → (k.adds = true → 1 ≤ c.l.length) ∧ (k.adds = false ∨ 2 ≤ k.mv → k.l.length ≤ c.l.length)) (h : Sat S w (pt mb (.cells (wkC k ul ug).toArray T.haycroftref18_Work (0, 0)) :: ownS T.uint64 1 ul (ints .u64 (k).l) :: ownS T.uint64 1 ug (ints .u64 (k).got) :: pt cb (.cells (celC c lv).toArray T.haycroftref18_Cells (0, 0)) :: ownS T.uint64 1 lv (ints .u64 (c).l) :: G)) :
    Ret Try.prog F.ref18_Work_Move #[.pointer (some ⟨mb, 0, none⟩), .pointer (some ⟨cb, 0, none⟩)] w (fun v w' => v = .int .i64 (k.move c).1 ∧ ∃ ul' ug', Sat S w' (pt mb (.cells (wkC (k.move c).2.1 ul' ug').toArray T.haycroftref18_Work (0, 0)) :: ownS T.uint64 1 ul' (ints .u64 ((k.move c).2.1).l) :: ownS T.uint64 1 ug' (ints .u64 ((k.move c).2.1).got) :: pt cb (.cells (celC (k.move c).2.2 lv).toArray T.haycroftref18_Cells (0, 0)) :: ownS T.uint64 1 lv (ints .u64 ((k.move c).2.2).l) :: G)) := by
  obtain ⟨rd, ad, n, l, mv, dn, seen, got⟩ := k
  obtain ⟨lk, ct, cl⟩ := c
  simp only at hmv hgl hcl hcnt hll
  cases dn
  rotate_left
  · refine ret_of is_ref18_Work_Move rfl ?_
    repeat' (first | refine stPs ?_ | (refine stC0_P18x ?_; rintro _ w ⟨rfl, h⟩) | (refine stD1_P18x ?_; rintro _ w ⟨rfl, h⟩ <;> refine nowa ?_) | (refine p_cmp rfl rfl rfl rfl (fun hc => ?_) (fun hc => ?_) <;> simp only [cmpProp] at hc) | (refine r_cmp rfl rfl rfl rfl rfl (fun hc => ?_) (fun hc => ?_) <;> simp only [cmpProp] at hc) | (refine x_drawn rfl ?_; have h := h.drew) | refine x_drawn rfl ?_ | fail)
    exact x_ret' is_ref18_Work_Move rfl ⟨rfl, _, _, h.pm5⟩
  have hmv := hmv rfl
  cases rd
  rotate_left
  · have e : WkM.move ⟨true, ad, n, l, mv, false, seen, got⟩ ⟨lk, ct, cl⟩ = WkM.rd ⟨true, ad, n, l, mv, false, seen, got⟩ ⟨lk, ct, cl⟩ := by unfold WkM.move; rw [if_neg (by simp), if_pos rfl]
    rw [e]
    refine ret_of is_ref18_Work_Move rfl ?_
    repeat' (first | (refine gC F.ref18_Work_read ?_; refine p_call rfl rfl (ref18_Work_read_spec (k := ⟨true, ad, n, l, mv, false, seen, got⟩) (c := ⟨lk, ct, cl⟩) rfl hmv (fun e => hgl e rfl rfl) hcl (h.rf5)) ?_; rintro _ w ⟨rfl, ug', h⟩) | refine stP ?_ | (refine stC0_P18x ?_; rintro _ w ⟨rfl, h⟩) | (refine stD1_P18x ?_; rintro _ w ⟨rfl, h⟩ <;> refine nowa ?_) | (refine p_cmp rfl rfl rfl rfl (fun hc => ?_) (fun hc => ?_) <;> simp only [cmpProp] at hc) | (refine r_cmp rfl rfl rfl rfl rfl (fun hc => ?_) (fun hc => ?_) <;> simp only [cmpProp] at hc) | (refine x_drawn rfl ?_; have h := h.drew) | refine x_drawn rfl ?_ | fail)
    exact x_ret' is_ref18_Work_Move rfl ⟨rfl, _, _, h.pm5⟩
  obtain ⟨ua, un, uc, rfl, hun, _⟩ := ownS_slice h (.there .here)
  obtain ⟨ga, gn, gc, rfl, hgn, _⟩ := ownS_slice h (.there (.there .here))
  obtain ⟨la, ln, lc, rfl, hln, _⟩ := ownS_slice h (.there (.there (.there (.there .here))))
  rw [ints_length, Nat.mul_one] at hun hgn hln
  simp only at hun hgn hln
  refine ret_of is_ref18_Work_Move rfl ?_
  by_cases hm : mv = 0
  · subst hm
    cases lk
    · repeat' (first | refine stPs ?_ | (refine stC0_P18x ?_; rintro _ w ⟨rfl, h⟩) | (refine stD1_P18x ?_; rintro _ w ⟨rfl, h⟩ <;> refine nowa ?_) | (refine p_cmp rfl rfl rfl rfl (fun hc => ?_) (fun hc => ?_) <;> simp only [cmpProp] at hc) | (refine r_cmp rfl rfl rfl rfl rfl (fun hc => ?_) (fun hc => ?_) <;> simp only [cmpProp] at hc) | (refine x_drawn rfl ?_; have h := h.drew) | refine x_drawn rfl ?_ | fail)
      exact x_ret' is_ref18_Work_Move rfl ⟨rfl, _, _, h.pm5⟩
    · repeat' (first | refine stPs ?_ | (refine stC0_P18x ?_; rintro _ w ⟨rfl, h⟩) | (refine stD1_P18x ?_; rintro _ w ⟨rfl, h⟩ <;> refine nowa ?_) | (refine p_cmp rfl rfl rfl rfl (fun hc => ?_) (fun hc => ?_) <;> simp only [cmpProp] at hc) | (refine r_cmp rfl rfl rfl rfl rfl (fun hc => ?_) (fun hc => ?_) <;> simp only [cmpProp] at hc) | (refine x_drawn rfl ?_; have h := h.drew) | refine x_drawn rfl ?_ | fail)
      exact x_ret' is_ref18_Work_Move rfl ⟨rfl, _, _, h.pm5⟩
  obtain ⟨hl1, hl2⟩ := hll rfl rfl (by omega)
  by_cases h1 : ad = true ∧ mv = 1
  · obtain ⟨rfl, rfl⟩ := h1
    have hl1 := hl1 rfl
    obtain ⟨lo, rfl⟩ := ownS_addr (E := T.uint64) h (.there (.there (.there (.there .here)))) (by omega)
    have e : WkM.move ⟨false, true, n, l, 1, false, seen, got⟩ ⟨lk, ct, cl⟩ = (1, ⟨false, true, n, [(cl.getD 0 0 + n) % 18446744073709551616], 2, false, seen, got⟩, ⟨lk, ct, cl⟩) := rfl
    rw [e]
    repeat' (first | (refine gLR ?_; refine r_own rfl rfl rfl h (fun w h => g_ldI (i := 0) rfl (ownS_rd h (.there (.there (.there (.there .here))))) (by first | omega | (dsimp only; omega)) (by first | omega | (dsimp only; omega))) ?_) | (refine gR .add ?_; refine r_pure rfl rfl rfl (fun _ => g_addw_u rfl rfl) ?_) | (refine r_do rfl rfl (d_lit [.int .u64 ((cl.getD 0 0 + n) % 18446744073709551616)] rfl rfl rfl rfl rfl h) ?_; intro v2 w h; refine nowa ?_; obtain ⟨va, vl, vc, rfl, _, _⟩ := ownS_slice h .here) | refine stP ?_ | (refine stC0_P18x ?_; rintro _ w ⟨rfl, h⟩) | (refine stD1_P18x ?_; rintro _ w ⟨rfl, h⟩ <;> refine nowa ?_) | (refine p_cmp rfl rfl rfl rfl (fun hc => ?_) (fun hc => ?_) <;> simp only [cmpProp] at hc) | (refine r_cmp rfl rfl rfl rfl rfl (fun hc => ?_) (fun hc => ?_) <;> simp only [cmpProp] at hc) | (refine x_drawn rfl ?_; have h := h.drew) | refine x_drawn rfl ?_ | fail)
    exact x_ret' is_ref18_Work_Move rfl ⟨rfl, _, _, h.pm5⟩
  have hs2 : ad = false ∨ 2 ≤ mv := by
    cases ad
    · exact .inl rfl
    · right
      have : ¬ mv = 1 := fun e => h1 ⟨rfl, e⟩
      omega
  have hl2 := hl2 hs2
  have key : ∀ q : Nat, q = mv - 1 - (if ad = true then 1 else 0) → WkM.move ⟨false, ad, n, l, mv, false, seen, got⟩ ⟨lk, ct, cl⟩ = if q < l.length then (1, ⟨false, ad, n, l, mv + 1, false, seen, got⟩, ⟨lk, ct, cl.set q (l.getD q 0)⟩) else (2, ⟨false, ad, n, l, mv, true, seen, got⟩, ⟨false, (ct + 1) % 4294967296, cl⟩) := fun q hq => by
    unfold WkM.move WkM.wr
    rw [if_neg (by simp), if_neg (by simp), if_neg hm, if_neg h1]
    have e : WkM.at_ ⟨false, ad, n, l, mv, false, seen, got⟩ = q := by rw [hq]; rfl
    rw [e]
  cases ad
  · have hk := key (mv - 1) (by simp)
    by_cases hlt : mv - 1 < l.length
    · rw [if_pos hlt] at hk
      rw [hk]
      obtain ⟨lo, rfl⟩ := ownS_addr (E := T.uint64) h (.there (.there (.there (.there .here)))) (by omega)
      obtain ⟨uo, rfl⟩ := ownS_addr (E := T.uint64) h (.there .here) (by omega)
      repeat' (first | (refine gLR ?_; refine r_own rfl rfl rfl h (fun w h => g_ldI (i := mv - 1) rfl (ownS_rd h (.there .here)) (by first | omega | (dsimp only; omega)) (by first | omega | (dsimp only; omega))) ?_) | refine stP ?_ | (refine stC0_P18x ?_; rintro _ w ⟨rfl, h⟩) | (refine stD1_P18x ?_; rintro _ w ⟨rfl, h⟩ <;> refine nowa ?_) | (refine p_cmp rfl rfl rfl rfl (fun hc => ?_) (fun hc => ?_) <;> simp only [cmpProp] at hc) | (refine r_cmp rfl rfl rfl rfl rfl (fun hc => ?_) (fun hc => ?_) <;> simp only [cmpProp] at hc) | (refine x_drawn rfl ?_; have h := h.drew) | refine x_drawn rfl ?_ | fail)
      refine r_do rfl rfl (d_stI (i := mv - 1) rfl rfl (h.pick (.there (.there (.there (.there .here))))) (by first | omega | (dsimp only; omega)) (by first | omega | (dsimp only; omega))) ?_
      rintro _ w ⟨rfl, h⟩
      refine nowa ?_
      repeat' (first | refine stPs ?_ | (refine stC0_P18x ?_; rintro _ w ⟨rfl, h⟩) | (refine stD1_P18x ?_; rintro _ w ⟨rfl, h⟩ <;> refine nowa ?_) | (refine p_cmp rfl rfl rfl rfl (fun hc => ?_) (fun hc => ?_) <;> simp only [cmpProp] at hc) | (refine r_cmp rfl rfl rfl rfl rfl (fun hc => ?_) (fun hc => ?_) <;> simp only [cmpProp] at hc) | (refine x_drawn rfl ?_; have h := h.drew) | refine x_drawn rfl ?_ | fail)
      exact x_ret' is_ref18_Work_Move rfl ⟨rfl, _, _, h.pm5⟩
    · rw [if_neg hlt] at hk
      rw [hk]
      repeat' (first | (refine gB .rem ?_; refine p_val rfl (g_rem_u rfl rfl (by omega) (by omega)) ?_) | refine stP ?_ | (refine stC0_P18x ?_; rintro _ w ⟨rfl, h⟩) | (refine stD1_P18x ?_; rintro _ w ⟨rfl, h⟩ <;> refine nowa ?_) | (refine p_cmp rfl rfl rfl rfl (fun hc => ?_) (fun hc => ?_) <;> simp only [cmpProp] at hc) | (refine r_cmp rfl rfl rfl rfl rfl (fun hc => ?_) (fun hc => ?_) <;> simp only [cmpProp] at hc) | (refine x_drawn rfl ?_; have h := h.drew) | refine x_drawn rfl ?_ | fail)
      exact x_ret' is_ref18_Work_Move rfl ⟨rfl, _, _, h.pm5⟩
  · have hk := key (mv - 1 - 1) (by simp)
    have hmv1 : ¬ mv = 1 := fun e => h1 ⟨rfl, e⟩
    by_cases hlt : mv - 1 - 1 < l.length
    · rw [if_pos hlt] at hk
      rw [hk]
      obtain ⟨lo, rfl⟩ := ownS_addr (E := T.uint64) h (.there (.there (.there (.there .here)))) (by omega)
      obtain ⟨uo, rfl⟩ := ownS_addr (E := T.uint64) h (.there .here) (by omega)
      repeat' (first | (refine gLR ?_; refine r_own rfl rfl rfl h (fun w h => g_ldI (i := mv - 1 - 1) rfl (ownS_rd h (.there .here)) (by first | omega | (dsimp only; omega)) (by first | omega | (dsimp only; omega))) ?_) | refine stP ?_ | (refine stC0_P18x ?_; rintro _ w ⟨rfl, h⟩) | (refine stD1_P18x ?_; rintro _ w ⟨rfl, h⟩ <;> refine nowa ?_) | (refine p_cmp rfl rfl rfl rfl (fun hc => ?_) (fun hc => ?_) <;> simp only [cmpProp] at hc) | (refine r_cmp rfl rfl rfl rfl rfl (fun hc => ?_) (fun hc => ?_) <;> simp only [cmpProp] at hc) | (refine x_drawn rfl ?_; have h := h.drew) | refine x_drawn rfl ?_ | fail)
      refine r_do rfl rfl (d_stI (i := mv - 1 - 1) rfl rfl (h.pick (.there (.there (.there (.there .here))))) (by first | omega | (dsimp only; omega)) (by first | omega | (dsimp only; omega))) ?_
      rintro _ w ⟨rfl, h⟩
      refine nowa ?_
      repeat' (first | refine stPs ?_ | (refine stC0_P18x ?_; rintro _ w ⟨rfl, h⟩) | (refine stD1_P18x ?_; rintro _ w ⟨rfl, h⟩ <;> refine nowa ?_) | (refine p_cmp rfl rfl rfl rfl (fun hc => ?_) (fun hc => ?_) <;> simp only [cmpProp] at hc) | (refine r_cmp rfl rfl rfl rfl rfl (fun hc => ?_) (fun hc => ?_) <;> simp only [cmpProp] at hc) | (refine x_drawn rfl ?_; have h := h.drew) | refine x_drawn rfl ?_ | fail)
      exact x_ret' is_ref18_Work_Move rfl ⟨rfl, _, _, h.pm5⟩
    · rw [if_neg hlt] at hk
      rw [hk]
      repeat' (first | (refine gB .rem ?_; refine p_val rfl (g_rem_u rfl rfl (by omega) (by omega)) ?_) | refine stP ?_ | (refine stC0_P18x ?_; rintro _ w ⟨rfl, h⟩) | (refine stD1_P18x ?_; rintro _ w ⟨rfl, h⟩ <;> refine nowa ?_) | (refine p_cmp rfl rfl rfl rfl (fun hc => ?_) (fun hc => ?_) <;> simp only [cmpProp] at hc) | (refine r_cmp rfl rfl rfl rfl rfl (fun hc => ?_) (fun hc => ?_) <;> simp only [cmpProp] at hc) | (refine x_drawn rfl ?_; have h := h.drew) | refine x_drawn rfl ?_ | fail)
      exact x_ret' is_ref18_Work_Move rfl ⟨rfl, _, _, h.pm5⟩
end
end Go.Proofs.Ytjoicobfjpaepaa
