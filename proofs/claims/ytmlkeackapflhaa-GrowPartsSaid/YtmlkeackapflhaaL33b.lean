/- Layer 33 (grow): the three steps of a put. -/
import Derived.Test.YtmlkeackapflhaaL33
namespace Go.Proofs.Ytmlkeackapflhaa
open Go Go.HX
set_option maxRecDepth 4000
set_option maxHeartbeats 1000000
section
variable {x : IdxM} {Cs : List (List Nat)}
theorem home_chain (h : Forest x Cs) {y : Int} {b : Nat} (hb : (b : Int) = bucketZ y x.nb) {C : List Nat} (hC : Cs[b]? = some C) : x.home y = C := by
  unfold IdxM.home
  rw [← hb, Int.toNat_natCast]
  exact h.chain hC
/-- The number's tag is there: it points elsewhere then. -/
theorem grow_found (h : Forest x Cs) {y a : Int} (hk : (lookV x y).kind = 1) (a1 : 1 ≤ a) (a2 : a ≤ 281474976710655) :
    turnX x (lookV x y).slot (lookV x y).word a = ((true, 0), growX x y a) ∧ Forest (growX x y a) Cs ∧ (growX x y a).taken = x.taken ∧ (∀ g, toldV (growX x y a) g = if bucketZ g x.nb = bucketZ y x.nb ∧ tagZ g = tagZ y then some a else toldV x g) ∧ (∀ C ∈ Cs, cntW (growX x y a) C = cntW x C) := by
  obtain ⟨b, C, hne, hbn, hbe, hC, hbu, hcase⟩ := look_tells h y
  rcases hcase with ⟨_, s, hs, he, hw, hE⟩ | ⟨hk', _⟩ | ⟨hk', _⟩
  · have hsl := h.slot hC hs
    obtain ⟨hnz, hu1, hu2⟩ := hasE_nz hE
    have hub := unpack_bounds (h.ch.bnd s).1
    have hok : entOk ⟨a, (unpackE (x.wd s)).1.tag, false⟩ := ⟨a2, hub.2.2.2, by simp; omega⟩
    obtain ⟨q1, q2, q3, q4, q5⟩ := unpack_pack (e := ⟨a, (unpackE (x.wd s)).1.tag, false⟩) (by simp; omega) hub.2.2.1 hok
    have ht : turnX x (lookV x y).slot (lookV x y).word a = ((true, 0), { x with row := ⟨x.row.ws.set s (packE ⟨a, (unpackE (x.wd s)).1.tag, false⟩).1, IntKind.i64.wrap (x.row.won + 1), x.row.lost⟩ }) := by
      rw [he, hw, turnX, if_pos hsl.2.2.2.2, toE, if_pos hu1, if_pos q3, try_wins hsl.2.2.1 rfl]
    have hg : growX x y a = { x with row := ⟨x.row.ws.set s (packE ⟨a, (unpackE (x.wd s)).1.tag, false⟩).1, IntKind.i64.wrap (x.row.won + 1), x.row.lost⟩ } := by
      rw [growX, if_pos hk, ht]
    have hF : Forest { x with row := ⟨x.row.ws.set s (packE ⟨a, (unpackE (x.wd s)).1.tag, false⟩).1, IntKind.i64.wrap (x.row.won + 1), x.row.lost⟩ } Cs := h.put hC hs _ _ q4 q5 (by rw [q1]) (fun t ht hts htw => by
      rw [q1]
      exact fun e => hts (h.uniq b C hC t ht s hs htw hnz e))
    rw [ht, hg]
    refine ⟨rfl, hF, rfl, fun g => ?_, fun D hD => ?_⟩
    · rw [addr_put h hC hs q2 hF (.inr (by rw [q1])) g, q1, hbe, hu2]
    · obtain ⟨b', hb'⟩ := List.getElem?_of_mem hD
      rw [cnt_set rfl hsl.2.2.1 (nodup_part h.ch.nd hb') q2, if_neg (fun hx => hnz hx.2)]
      rfl
  · omega
  · omega
/-- There is a free slot: the tag stands there then. -/
theorem grow_free (h : Forest x Cs) {y : Int} (y0 : 0 ≤ y) (y1 : y ≤ 18446744073709551615) (a : Int) (hk : (lookV x y).kind = 2) :
    claimX x (lookV x y).slot y = ((true, 0), growX x y a) ∧ Forest (growX x y a) Cs ∧ (growX x y a).taken = x.taken ∧ (∀ g, toldV (growX x y a) g = if bucketZ g x.nb = bucketZ y x.nb ∧ tagZ g = tagZ y then some 0 else toldV x g) ∧ (∀ (b : Nat) (C : List Nat), Cs[b]? = some C → cntW (growX x y a) C = cntW x C + if (b : Int) = bucketZ y x.nb then 1 else 0) ∧ (lookV (growX x y a) y).kind = 1 := by
  obtain ⟨b, C, hne, hbn, hbe, hC, hbu, hcase⟩ := look_tells h y
  have ht0 : 0 ≤ tagZ y ∧ tagZ y ≤ 16383 := by unfold tagZ; omega
  rcases hcase with ⟨hk', _⟩ | ⟨_, _, hno, s, hs, he, h0⟩ | ⟨hk', _⟩
  · omega
  · have hsl := h.slot hC hs
    have hok : entOk ⟨0, tagZ y, true⟩ := ⟨by simp, by simp only; omega, by simp⟩
    obtain ⟨q1, q2, q3, q4, q5⟩ := unpack_pack (e := ⟨0, tagZ y, true⟩) (by simp) ht0.1 hok
    have ht : claimX x (lookV x y).slot y = ((true, 0), { x with row := ⟨x.row.ws.set s (freshW (tagZ y)), IntKind.i64.wrap (x.row.won + 1), x.row.lost⟩ }) := by
      rw [he, claimX, if_pos hsl.2.2.2.2, try_wins hsl.2.2.1 h0]
    have hg : growX x y a = { x with row := ⟨x.row.ws.set s (freshW (tagZ y)), IntKind.i64.wrap (x.row.won + 1), x.row.lost⟩ } := by
      rw [growX, if_neg (by omega), if_pos hk, ht]
    have hF : Forest { x with row := ⟨x.row.ws.set s (freshW (tagZ y)), IntKind.i64.wrap (x.row.won + 1), x.row.lost⟩ } Cs := h.put hC hs _ _ q4 q5 (by unfold freshW; rw [q1]) (fun t ht hts htw => by
      unfold freshW
      rw [q1]
      intro e
      have hx := hno t ht
      rw [hasE_wd h (mem_slots.1 ht).1 htw (show _ = tagZ y from e)] at hx
      cases hx)
    have q1' : unpackE (freshW (tagZ y)) = (⟨0, tagZ y, true⟩, 0) := q1
    have q2' : freshW (tagZ y) ≠ 0 := q2
    have hws : IdxM.wd { x with row := ⟨x.row.ws.set s (freshW (tagZ y)), IntKind.i64.wrap (x.row.won + 1), x.row.lost⟩ } s = freshW (tagZ y) := by
      rw [show IdxM.wd { x with row := ⟨x.row.ws.set s (freshW (tagZ y)), IntKind.i64.wrap (x.row.won + 1), x.row.lost⟩ } s = (x.row.ws.set s (freshW (tagZ y))).getD s 0 from rfl, getD_set hsl.2.2.1, if_pos rfl]
    have hlk := addr_at hF (y := y) (b := b) hbe hC hs (by rw [hws]; exact q2') (by rw [hws, q1'])
    rw [ht, hg]
    refine ⟨rfl, hF, rfl, fun g => ?_, fun b' D hD => ?_, hlk.2⟩
    · rw [addr_put h hC hs q2' hF (.inl h0) g, q1', hbe]
    · rw [cnt_set rfl hsl.2.2.1 (nodup_part h.ch.nd hD) q2']
      congr 1
      by_cases hbb : b' = b
      · subst hbb
        rw [hC] at hD
        cases hD
        rw [if_pos ⟨hs, h0⟩, if_pos hbe]
      · rw [if_neg (fun hx => apart_parts h.ch.nd hD hC hbb (mem_slots.1 hx.1).2 (mem_slots.1 hs).2), if_neg (by omega)]
  · omega
/-- There is no slot: a spare bucket stands behind then. -/
theorem grow_full (h : Forest x Cs) {y : Int} (a : Int) (hk : (lookV x y).kind = 3) (hf : x.taken < x.sp) :
    ∃ (b : Nat) (C : List Nat), (b : Int) = bucketZ y x.nb ∧ Cs[b]? = some C ∧ (spareX x).1 = ((x.nb : Int) + x.taken, 0) ∧ linkX (spareX x).2 (lookV x y).bucket ((x.nb : Int) + x.taken) = ((true, 0), growX x y a) ∧ Forest (growX x y a) (Cs.set b (C ++ [x.nb + x.taken])) ∧ (growX x y a).taken = x.taken + 1 ∧
      (∀ g, toldV (growX x y a) g = toldV x g) ∧ cntW x C = C.length * 7 ∧ cntW (growX x y a) (C ++ [x.nb + x.taken]) = cntW x C ∧ (∀ D ∈ Cs, cntW (growX x y a) D = cntW x D) ∧ (lookV (growX x y a) y).kind = 2 := by
  obtain ⟨b, C, hne, hbn, hbe, hC, hbu, hcase⟩ := look_tells h y
  have hno : ∀ t ∈ slotsG C, hasE (x.wd t) (tagZ y) = false := by
    rcases hcase with ⟨hk', _⟩ | ⟨hk', _⟩ | ⟨_, _, hno⟩
    · omega
    · omega
    · exact hno
  have hf' : ¬ x.sp ≤ x.taken := by omega
  obtain ⟨e, h1, h2, h3⟩ := spare_taken h.ok hf'
  have hsa : (spareX x).1 = ((x.nb : Int) + x.taken, 0) := by rw [spareX, if_neg hf']
  have hg : growX x y a = (linkX (spareX x).2 (lookV x y).bucket ((x.nb : Int) + x.taken)).2 := by
    rw [growX, if_neg (by omega), if_neg (by omega), if_neg hf', hsa]
  refine ⟨b, C, hbe, hC, hsa, ?_⟩
  rw [hg, hbu]
  obtain ⟨sx, hsx⟩ : ∃ sx, (spareX x).2 = sx := ⟨_, rfl⟩
  rw [hsx] at e h1 h2 h3 ⊢
  have hlm := List.getLast_mem hne
  have hll := h.ch.lt hC hlm
  have hcap := h.ch.cap
  have hmay := mayN_le h.may
  have hrow : sx.row = x.row := by rw [e]
  have hnb : sx.nb = x.nb := by rw [e]
  have hsp : sx.sp = x.sp := by rw [e]
  have hall : sx.all = x.nb + x.sp := by unfold IdxM.all; rw [hnb, hsp]
  have hlnk : ∀ c, sx.lnk c = lnkW x.row.ws c := fun c => by unfold IdxM.lnk lnkW; rw [hrow]
  have hz : ∀ i, (x.nb + x.taken) * 8 ≤ i → x.row.ws.getD i 0 = 0 := h.ch.zero
  have hch : sx.chainZ ((x.nb : Int) + x.taken) = [x.nb + x.taken] := by
    unfold IdxM.chainZ IdxM.chain
    rw [if_pos ⟨by omega, by rw [hall]; omega⟩, show ((x.nb : Int) + x.taken).toNat = x.nb + x.taken by omega]
    simp only [chainG]
    rw [hlnk, if_pos (by unfold lnkW; rw [hz _ (by omega)]; rfl)]
  have hlp : linkP sx (C.getLast hne : Nat) ((x.nb : Int) + x.taken) := by
    refine ⟨by omega, by rw [hall]; omega, by rw [hnb]; omega, by rw [hnb, h1]; omega, ?_, ?_⟩
    · rintro ⟨c, hc, hc0, hcs⟩
      rw [hlnk] at hc0 hcs
      by_cases hcl : c < x.nb + x.taken
      · obtain ⟨D, hD, hcD⟩ := List.mem_flatten.1 ((h.ch.cov c).2 hcl)
        obtain ⟨b', hb'⟩ := List.getElem?_of_mem hD
        have := h.ch.lt hb' (path_next (h.ch.path b' D hb') c hcD hc0)
        omega
      · unfold lnkW at hc0
        rw [hz _ (by omega)] at hc0
        exact hc0 rfl
    · rw [hch]
      simp [natsZ]
      omega
  have hle : x.row.ws.getD (C.getLast hne * 8 + 7) 0 = 0 := by
    have h4 := path_last (h.ch.path b C hC) hne
    have h5 := h.ch.bnd (C.getLast hne * 8 + 7)
    unfold lnkW at h4
    omega
  have e8 : ((C.getLast hne : Nat) : Int) * 8 + 7 = ((C.getLast hne * 8 + 7 : Nat) : Int) := by omega
  have hwl := h.ch.wl
  rw [linkX, if_pos hlp, e8, try_wins (by rw [hrow]; omega) (by unfold IdxM.wd; rw [hrow]; exact hle)]
  have hmore := h.ch.more hC hne (by have := h.sp; omega) (by omega)
  have e9 : (x.nb : Int) + x.taken + 1 = ((x.nb + x.taken : Nat) + 1 : Int) := by omega
  have hsl : C.getLast hne * 8 + 7 < x.row.ws.length := by omega
  have hwd : ∀ t, t % 8 < 7 → (x.row.ws.set (C.getLast hne * 8 + 7) ((x.nb : Int) + x.taken + 1)).getD t 0 = x.wd t := fun t ht => by
    rw [getD_set hsl, if_neg (by omega)]
    rfl
  obtain ⟨x', hx'⟩ : ∃ x', x' = { sx with row := ⟨sx.row.ws.set (C.getLast hne * 8 + 7) ((x.nb : Int) + x.taken + 1), IntKind.i64.wrap (sx.row.won + 1), sx.row.lost⟩ } := ⟨_, rfl⟩
  rw [← hx']
  have hw' : ∀ t, t % 8 < 7 → x'.wd t = x.wd t := fun t ht => by
    rw [hx']
    unfold IdxM.wd
    simp only
    rw [hrow]
    exact hwd t ht
  have ht' : x'.taken = x.taken + 1 := by rw [hx']; exact h1
  have hnb' : x'.nb = x.nb := by rw [hx']; exact hnb
  have hsp' : x'.sp = x.sp := by rw [hx']; exact hsp
  have hws' : x'.row.ws = x.row.ws.set (C.getLast hne * 8 + 7) (((x.nb + x.taken : Nat) : Int) + 1) := by rw [hx']; simp only; rw [hrow, e9]
  have htl' : x'.tk = sx.tk := by rw [hx']
  have hbl : b < Cs.length := (List.getElem?_eq_some_iff.1 hC).1
  have hin : ∀ {b' : Nat} {C' : List Nat}, (Cs.set b (C ++ [x.nb + x.taken]))[b']? = some C' → ∀ u, u ∈ slotsG C' → x.wd u ≠ 0 → b = b' → u ∈ slotsG C := fun {b' C'} hC' u hu hw hb => by
    subst hb
    rw [List.getElem?_set_self hbl] at hC'
    cases hC'
    obtain ⟨u1, u2⟩ := mem_slots.1 hu
    rcases List.mem_append.1 u2 with u2 | u2
    · exact mem_slots.2 ⟨u1, u2⟩
    · simp at u2
      exact absurd (hz u (by omega)) hw
  have hF : Forest x' (Cs.set b (C ++ [x.nb + x.taken])) := by
    refine ⟨by rw [hnb']; exact h.may, by rw [hsp']; exact h.sp, by rw [htl']; exact h2, by rw [htl']; exact h3, ?_, fun t ht => ?_, fun b' C' hC' t ht t' ht' => ?_⟩
    · rw [ht', hnb', hsp', hws']
      exact hmore
    · rw [hw' t ht]
      exact h.ent t ht
    · have m1 := (mem_slots.1 ht).1
      have m2 := (mem_slots.1 ht').1
      rw [hw' t m1, hw' t' m2]
      by_cases hb : b = b'
      · intro w1 w2 e
        exact h.uniq b C hC t (hin hC' t ht w1 hb) t' (hin hC' t' ht' w2 hb) w1 w2 e
      · rw [List.getElem?_set_ne hb] at hC'
        exact h.uniq b' C' hC' t ht t' ht'
  have hCl : (Cs.set b (C ++ [x.nb + x.taken]))[b]? = some (C ++ [x.nb + x.taken]) := List.getElem?_set_self hbl
  have hcw : ∀ D : List Nat, cntW x' D = cntW x D := fun D => by
    unfold cntW
    congr 1
    refine List.filter_congr (fun t ht => ?_)
    rw [hw' t (mem_slots.1 ht).1]
  have hcn : cntW x (C ++ [x.nb + x.taken]) = cntW x C := by
    unfold cntW slotsG
    rw [List.flatMap_append, List.filter_append, List.length_append]
    have : (List.filter (fun s => nz (x.wd s)) ([x.nb + x.taken].flatMap (fun b => (List.range 7).map (fun k => b * 8 + k)))) = [] := by
      rw [List.filter_eq_nil_iff]
      intro t ht
      simp at ht
      obtain ⟨k, hk, rfl⟩ := ht
      have : x.wd ((x.nb + x.taken) * 8 + k) = 0 := hz _ (by omega)
      rw [this]
      decide
    rw [this]
    simp
  have hful := look_full y hk
  rw [home_chain h hbe hC] at hful
  refine ⟨rfl, hF, ht', fun g => ?_, ?_, by rw [hcw, hcn], fun D _ => hcw D, ?_⟩
  · have hbk := bucket_lt (h := g) h.may
    obtain ⟨b', hb'⟩ := Int.eq_ofNat_of_zero_le hbk.1
    obtain ⟨C', hC'⟩ := h.ch.get (show b' < x.nb by omega)
    by_cases hbb : b = b'
    · subst hbb
      rw [hC] at hC'
      cases hC'
      refine addr_congr h hF hnb' hb'.symm hC hCl (fun t ht hw htt => ⟨t, mem_slots.2 ⟨(mem_slots.1 ht).1, List.mem_append_left _ (mem_slots.1 ht).2⟩, hw' t (mem_slots.1 ht).1⟩) (fun t ht hw htt => ?_)
      have m1 := (mem_slots.1 ht).1
      rw [hw' t m1] at hw htt
      exact ⟨t, hin hCl t ht hw rfl, (hw' t m1).symm⟩
    · refine addr_congr h hF hnb' hb'.symm hC' (by rw [List.getElem?_set_ne hbb]; exact hC') (fun t ht hw htt => ⟨t, ht, hw' t (mem_slots.1 ht).1⟩) (fun t ht hw htt => ⟨t, ht, (hw' t (mem_slots.1 ht).1).symm⟩)
  · unfold cntW
    rw [List.filter_eq_self.2 (fun t ht => ?_), slotsG_length]
    have := hful t ht
    rw [(h.slot hC ht).2.2.2.1] at this
    exact decide_eq_true this
  · obtain ⟨b', C', hne', _, hb', hC', _, hcase'⟩ := look_tells hF y
    obtain rfl : b' = b := by rw [hnb'] at hb'; omega
    rw [hCl] at hC'
    cases hC'
    rcases hcase' with ⟨_, s, hs, _, _, hE⟩ | ⟨hk', _⟩ | ⟨hk', _, _⟩
    · obtain ⟨q0, _, q2⟩ := hasE_nz hE
      have m1 := (mem_slots.1 hs).1
      rw [hw' s m1] at q0 hE
      have := hno s (hin hCl s hs q0 rfl)
      rw [hE] at this
      cases this
    · exact hk'
    · have hful' := look_full y hk'
      rw [home_chain hF hb' hCl] at hful'
      have hm : (x.nb + x.taken) * 8 ∈ slotsG (C ++ [x.nb + x.taken]) := mem_slots.2 ⟨by omega, List.mem_append_right _ (by simp)⟩
      have := hful' _ hm
      rw [(hF.slot hCl hm).2.2.2.1, hw' _ (by omega)] at this
      exact absurd (hz _ (by omega)) this
end
end Go.Proofs.Ytmlkeackapflhaa
