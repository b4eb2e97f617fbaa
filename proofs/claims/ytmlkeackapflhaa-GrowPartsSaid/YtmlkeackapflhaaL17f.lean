/- Layer 17 (index): in each chain a tag stands once, whatever is done as looks tell. -/
import Derived.Test.YtmlkeackapflhaaP17g
import Derived.Test.YtmlkeackapflhaaR17d
namespace Go.Proofs.Ytmlkeackapflhaa
open Go Go.HX
set_option maxRecDepth 4000
set_option maxHeartbeats 1000000
structure Forest (x : IdxM) (Cs : List (List Nat)) : Prop where
  may : mayN x.nb
  sp : x.sp ≤ 64
  tlen : x.tk.ws.length = 1
  tkb : 0 ≤ x.tk.ws.getD 0 0
  ch : Chains x.nb x.sp x.row.ws x.taken Cs
  ent : ∀ s, s % 8 < 7 → x.wd s = 0 ∨ (unpackE (x.wd s)).2 = 0
  uniq : ∀ (b : Nat) (C : List Nat), Cs[b]? = some C → ∀ s ∈ slotsG C, ∀ t ∈ slotsG C, x.wd s ≠ 0 → x.wd t ≠ 0 → (unpackE (x.wd s)).1.tag = (unpackE (x.wd t)).1.tag → s = t
theorem Forest.ok {x : IdxM} {Cs : List (List Nat)} (h : Forest x Cs) : RefOk x :=
  ⟨⟨h.may, h.sp, h.ch.wl, fun c _ => by have := h.ch.link c; have := h.ch.cap; unfold IdxM.all; exact Nat.le_trans (h.ch.link c) (by omega), h.tlen, h.ch.cap⟩, h.ch.bnd, h.tkb⟩
theorem Forest.chain {x : IdxM} {Cs : List (List Nat)} (h : Forest x Cs) {b : Nat} {C : List Nat} (hC : Cs[b]? = some C) : x.chain b = C := h.ch.chain hC
theorem Forest.slot {x : IdxM} {Cs : List (List Nat)} (h : Forest x Cs) {b : Nat} {C : List Nat} (hC : Cs[b]? = some C) {s : Nat} (hs : s ∈ slotsG C) : s % 8 < 7 ∧ s < (x.nb + x.taken) * 8 ∧ s < x.row.ws.length ∧ x.row.load s = x.wd s ∧ slotP x s := by
  obtain ⟨h1, h2⟩ := mem_slots.1 hs
  have h3 := h.ch.lt hC h2
  have h4 := h.ch.cap
  have h5 := h.ch.wl
  have h6 : s < x.row.ws.length := by omega
  exact ⟨h1, by omega, h6, load_getD h6, by omega, by omega, by omega⟩
theorem findZ_some {p : Int → Bool} {l : List Int} (h : 0 ≤ findZ p l) : ∃ i : Nat, ∃ z, findZ p l = i ∧ l[i]? = some z ∧ p z = true := by
  unfold findZ at h ⊢
  cases hf : l.findIdx? p with
  | none => rw [hf] at h; simp at h
  | some i =>
    rw [List.findIdx?_eq_some_iff_getElem] at hf
    obtain ⟨hi, hp, _⟩ := hf
    exact ⟨i, l[i], rfl, List.getElem?_eq_getElem hi, hp⟩
theorem findZ_not {p : Int → Bool} {l : List Int} (h : ¬ 0 ≤ findZ p l) : ∀ z ∈ l, p z = false := by
  unfold findZ at h
  cases hf : l.findIdx? p with
  | none =>
    intro z hz
    rw [List.findIdx?_eq_none_iff] at hf
    exact hf z hz
  | some i =>
    rw [hf] at h
    exact absurd (Int.natCast_nonneg i) h
/-- What a look tells. -/
theorem look_tells {x : IdxM} {Cs : List (List Nat)} (h : Forest x Cs) (y : Int) : ∃ b C, ∃ hne : C ≠ [], b < x.nb ∧ (b : Int) = bucketZ y x.nb ∧ Cs[b]? = some C ∧ (lookV x y).bucket = (C.getLast hne : Nat) ∧
    (((lookV x y).kind = 1 ∧ ∃ s ∈ slotsG C, (lookV x y).slot = (s : Nat) ∧ (lookV x y).word = x.wd s ∧ hasE (x.wd s) (tagZ y) = true) ∨
     ((lookV x y).kind = 2 ∧ (lookV x y).word = 0 ∧ (∀ t ∈ slotsG C, hasE (x.wd t) (tagZ y) = false) ∧ ∃ s ∈ slotsG C, (lookV x y).slot = (s : Nat) ∧ x.wd s = 0) ∨
     ((lookV x y).kind = 3 ∧ (lookV x y).word = 0 ∧ ∀ t ∈ slotsG C, hasE (x.wd t) (tagZ y) = false)) := by
  have hbk := bucket_lt (h := y) h.may
  obtain ⟨b, hb⟩ := Int.eq_ofNat_of_zero_le hbk.1
  have hbn : b < x.nb := by omega
  obtain ⟨C, hC⟩ := h.ch.get hbn
  have hne := h.ch.ne hC
  have hhome : x.home y = C := by
    unfold IdxM.home
    rw [hb, Int.toNat_natCast]
    exact h.chain hC
  have hlast : x.last y = (C.getLast hne : Nat) := by
    unfold IdxM.last natsZ
    rw [hhome, List.getD_eq_getElem?_getD, List.getElem?_map, ← List.getLast?_eq_getElem?, List.getLast?_eq_some_getLast hne]
    rfl
  have hmem : ∀ z ∈ x.homes y, ∃ s ∈ slotsG C, z = (s : Nat) := fun z hz => by
    unfold IdxM.homes natsZ at hz
    rw [hhome] at hz
    obtain ⟨s, hs, rfl⟩ := List.mem_map.1 hz
    exact ⟨s, hs, rfl⟩
  have hin : ∀ s ∈ slotsG C, ((s : Nat) : Int) ∈ x.homes y := fun s hs => by
    unfold IdxM.homes natsZ
    rw [hhome]
    exact List.mem_map.2 ⟨s, hs, rfl⟩
  have hget : ∀ {i : Nat} {z : Int}, (x.homes y)[i]? = some z → (x.homes y).getD i 0 = z := fun {i z} hz => by rw [List.getD_eq_getElem?_getD, hz]; rfl
  refine ⟨b, C, hne, hbn, hb.symm, hC, ?_, ?_⟩
  · unfold lookV
    split
    · exact hlast
    · split <;> exact hlast
  · by_cases c1 : 0 ≤ x.found y
    · have e : lookV x y = ⟨1, (x.homes y).getD (x.found y).toNat 0, x.row.load ((x.homes y).getD (x.found y).toNat 0), x.last y⟩ := by rw [lookV, if_pos c1]
      obtain ⟨i, z, h1, h2, h3⟩ := findZ_some (show 0 ≤ findZ (fun s => hasE (x.row.load s) (tagZ y)) (x.homes y) from c1)
      have h1 : x.found y = i := h1
      obtain ⟨s, hs, rfl⟩ := hmem z (List.mem_of_getElem? h2)
      have hsl := h.slot hC hs
      rw [e, h1, Int.toNat_natCast, hget h2]
      rw [hsl.2.2.2.1] at h3 ⊢
      exact .inl ⟨rfl, s, hs, rfl, rfl, h3⟩
    · have hnf : ∀ t ∈ slotsG C, hasE (x.wd t) (tagZ y) = false := fun t ht => by
        have := findZ_not (show ¬ 0 ≤ findZ (fun s => hasE (x.row.load s) (tagZ y)) (x.homes y) from c1) _ (hin t ht)
        rw [(h.slot hC ht).2.2.2.1] at this
        exact this
      by_cases c2 : 0 ≤ x.free y
      · have e : lookV x y = ⟨2, (x.homes y).getD (x.free y).toNat 0, 0, x.last y⟩ := by rw [lookV, if_neg c1, if_pos c2]
        obtain ⟨i, z, h1, h2, h3⟩ := findZ_some (show 0 ≤ findZ (fun s => decide (x.row.load s = 0)) (x.homes y) from c2)
        have h1 : x.free y = i := h1
        obtain ⟨s, hs, rfl⟩ := hmem z (List.mem_of_getElem? h2)
        have hsl := h.slot hC hs
        rw [e, h1, Int.toNat_natCast, hget h2]
        rw [hsl.2.2.2.1] at h3
        exact .inr (.inl ⟨rfl, rfl, hnf, s, hs, rfl, of_decide_eq_true h3⟩)
      · have e : lookV x y = ⟨3, 0, 0, x.last y⟩ := by rw [lookV, if_neg c1, if_neg c2]
        rw [e]
        exact .inr (.inr ⟨rfl, rfl, hnf⟩)
/-- A slot of a chain has another entry. -/
theorem Forest.put {x : IdxM} {Cs : List (List Nat)} (h : Forest x Cs) {b : Nat} {C : List Nat} (hC : Cs[b]? = some C) {s : Nat} (hs : s ∈ slotsG C) {v : Int} (w1 w2 : Int) (v0 : 0 ≤ v) (v1 : v ≤ 18446744073709551615) (hv : (unpackE v).2 = 0)
    (hu : ∀ t ∈ slotsG C, t ≠ s → x.wd t ≠ 0 → (unpackE (x.wd t)).1.tag ≠ (unpackE v).1.tag) : Forest { x with row := ⟨x.row.ws.set s v, w1, w2⟩ } Cs := by
  obtain ⟨h7, hlt, hsl, _⟩ := h.slot hC hs
  have hc := (mem_slots.1 hs).2
  have hwd : ∀ t, IdxM.wd { x with row := ⟨x.row.ws.set s v, w1, w2⟩ } t = if t = s then v else x.wd t := fun t => getD_set hsl
  refine ⟨h.may, h.sp, h.tlen, h.tkb, h.ch.put h7 hlt v0 v1, fun t ht => ?_, fun b' C' h' t ht t' ht' => ?_⟩
  · rw [hwd]
    split
    · exact .inr hv
    · exact h.ent t ht
  · rw [hwd, hwd]
    by_cases hbb : b' = b
    · subst hbb
      rw [hC] at h'
      cases h'
      by_cases e1 : t = s <;> by_cases e2 : t' = s
      · intro _ _ _; rw [e1, e2]
      · rw [if_pos e1, if_neg e2]
        intro _ hw he
        exact absurd he.symm (hu t' ht' e2 hw)
      · rw [if_neg e1, if_pos e2]
        intro hw _ he
        exact absurd he (hu t ht e1 hw)
      · rw [if_neg e1, if_neg e2]
        exact h.uniq b' _ hC t ht t' ht'
    · have hn1 : t ≠ s := fun e => by
        subst e
        exact apart_parts h.ch.nd h' hC hbb (mem_slots.1 ht).2 hc
      have hn2 : t' ≠ s := fun e => by
        subst e
        exact apart_parts h.ch.nd h' hC hbb (mem_slots.1 ht').2 hc
      rw [if_neg hn1, if_neg hn2]
      exact h.uniq b' C' h' t ht t' ht'
theorem try_wins {x : IdxM} {s : Nat} {o n : Int} (hs : s < x.row.ws.length) (ho : x.wd s = o) : tryX x s o n = ((true, 0), { x with row := ⟨x.row.ws.set s n, IntKind.i64.wrap (x.row.won + 1), x.row.lost⟩ }) := by
  have ht : x.row.there s := ⟨by omega, by omega⟩
  have ho : x.row.ws.getD s 0 = o := ho
  unfold tryX RowM.cas RowM.may
  rw [Int.toNat_natCast, if_pos ho, if_pos ht, if_pos (show 0 ≤ (s : Int) ∧ (s : Int) < x.row.ws.length from ht), decide_eq_true ⟨ht, ho⟩]
theorem claim_wins {x : IdxM} {Cs : List (List Nat)} (h : Forest x Cs) (y : Int) (hk : (lookV x y).kind = 2) : (claimX x (lookV x y).slot y).1.1 = true := by
  obtain ⟨b, C, hne, _, _, hC, _, hcase⟩ := look_tells h y
  rcases hcase with ⟨h1, _⟩ | ⟨_, _, _, s, hs, he, h0⟩ | ⟨h1, _⟩
  · omega
  · have hsl := h.slot hC hs
    rw [he, claimX, if_pos hsl.2.2.2.2, try_wins hsl.2.2.1 h0]
  · omega
theorem forest_grow {x : IdxM} {Cs : List (List Nat)} (h : Forest x Cs) {y a : Int} (y0 : 0 ≤ y) (y1 : y ≤ 18446744073709551615) (a0 : 0 ≤ a) : ∃ Cs', Forest (growX x y a) Cs' := by
  obtain ⟨b, C, hne, hbn, hbe, hC, hbu, hcase⟩ := look_tells h y
  have ht0 : 0 ≤ tagZ y ∧ tagZ y ≤ 16383 := by unfold tagZ; omega
  unfold growX
  rcases hcase with ⟨hk, s, hs, he, hw, hE⟩ | ⟨hk, hw, hno, s, hs, he, h0⟩ | ⟨hk, hw, hno⟩
  · rw [if_pos hk, he, hw]
    have hsl := h.slot hC hs
    obtain ⟨hu1, hu2⟩ := of_decide_eq_true hE
    rw [turnX, if_pos hsl.2.2.2.2]
    have hto : toE (x.wd s) a = packE ⟨a, (unpackE (x.wd s)).1.tag, false⟩ := by rw [toE, if_pos hu1]
    rw [hto]
    by_cases hp : (packE ⟨a, (unpackE (x.wd s)).1.tag, false⟩).2 = 0
    · rw [if_pos hp, try_wins hsl.2.2.1 rfl]
      have hok : entOk ⟨a, (unpackE (x.wd s)).1.tag, false⟩ := by
        unfold packE at hp
        split at hp
        · assumption
        · cases hp
      have hub := unpack_bounds (h.ch.bnd s).1
      obtain ⟨q1, q2, q3, q4, q5⟩ := unpack_pack (e := ⟨a, (unpackE (x.wd s)).1.tag, false⟩) a0 hub.2.2.1 hok
      have hnz : x.wd s ≠ 0 := fun e => by rw [e] at hu1; exact absurd hu1 (by decide)
      refine ⟨Cs, h.put hC hs _ _ q4 q5 (by rw [q1]) (fun t ht hts htw => ?_)⟩
      rw [q1]
      exact fun e => hts (h.uniq b C hC t ht s hs htw hnz e)
    · rw [if_neg hp]
      exact ⟨Cs, h⟩
  · rw [if_neg (by omega), if_pos hk, he]
    have hsl := h.slot hC hs
    rw [claimX, if_pos hsl.2.2.2.2, try_wins hsl.2.2.1 h0]
    have hok : entOk ⟨0, tagZ y, true⟩ := ⟨by simp, by simp only; omega, by simp⟩
    obtain ⟨q1, q2, q3, q4, q5⟩ := unpack_pack (e := ⟨0, tagZ y, true⟩) (by simp) ht0.1 hok
    refine ⟨Cs, h.put hC hs _ _ q4 q5 (by unfold freshW; rw [q1]) (fun t ht hts htw => ?_)⟩
    unfold freshW
    rw [q1]
    intro e
    have hn := hno t ht
    unfold hasE at hn
    rcases h.ent t (mem_slots.1 ht).1 with h1 | h1
    · exact htw h1
    · exact absurd ⟨h1, e⟩ (of_decide_eq_false hn)
  · rw [if_neg (by omega), if_neg (by omega)]
    by_cases hf : x.sp ≤ x.taken
    · rw [if_pos hf]
      exact ⟨Cs, h⟩
    · rw [if_neg hf]
      obtain ⟨e, h1, h2, h3⟩ := spare_taken h.ok hf
      have hsa : (spareX x).1.1 = (x.nb : Int) + x.taken := by rw [spareX, if_neg hf]
      rw [hsa, hbu]
      obtain ⟨sx, hsx⟩ : ∃ sx, (spareX x).2 = sx := ⟨_, rfl⟩
      rw [hsx] at e h1 h2 h3 ⊢
      have hlm := List.getLast_mem hne
      have hll := h.ch.lt hC hlm
      have hcap := h.ch.cap
      have hmay := mayN_le h.may
      have hrow : sx.row = x.row := by rw [e]
      have hnb : sx.nb = x.nb := by rw [e]
      have hsp : sx.sp = x.sp := by rw [e]
      have hall : sx.all = x.nb + x.sp := by unfold IdxM.all; rw [hnb, hsp]
      have hlnk : ∀ c, sx.lnk c = lnkW x.row.ws c := fun c => by unfold IdxM.lnk lnkW; rw [hrow]
      have hz : ∀ i, (x.nb + x.taken) * 8 ≤ i → x.row.ws.getD i 0 = 0 := h.ch.zero
      have hch : sx.chainZ ((x.nb : Int) + x.taken) = [x.nb + x.taken] := by
        unfold IdxM.chainZ IdxM.chain
        rw [if_pos ⟨by omega, by rw [hall]; omega⟩, show ((x.nb : Int) + x.taken).toNat = x.nb + x.taken by omega]
        simp only [chainG]
        rw [hlnk, if_pos (by unfold lnkW; rw [hz _ (by omega)]; rfl)]
      have hlp : linkP sx (C.getLast hne : Nat) ((x.nb : Int) + x.taken) := by
        refine ⟨by omega, by rw [hall]; omega, by rw [hnb]; omega, by rw [hnb, h1]; omega, ?_, ?_⟩
        · rintro ⟨c, hc, hc0, hcs⟩
          rw [hlnk] at hc0 hcs
          by_cases hcl : c < x.nb + x.taken
          · obtain ⟨D, hD, hcD⟩ := List.mem_flatten.1 ((h.ch.cov c).2 hcl)
            obtain ⟨b', hb'⟩ := List.getElem?_of_mem hD
            have := h.ch.lt hb' (path_next (h.ch.path b' D hb') c hcD hc0)
            omega
          · unfold lnkW at hc0
            rw [hz _ (by omega)] at hc0
            exact hc0 rfl
        · rw [hch]
          simp [natsZ]
          omega
      have hle : x.row.ws.getD (C.getLast hne * 8 + 7) 0 = 0 := by
        have h4 := path_last (h.ch.path b C hC) hne
        have h5 := h.ch.bnd (C.getLast hne * 8 + 7)
        unfold lnkW at h4
        omega
      have e8 : ((C.getLast hne : Nat) : Int) * 8 + 7 = ((C.getLast hne * 8 + 7 : Nat) : Int) := by omega
      have hwl := h.ch.wl
      rw [linkX, if_pos hlp, e8, try_wins (by rw [hrow]; omega) (by unfold IdxM.wd; rw [hrow]; exact hle)]
      have hmore := h.ch.more hC hne (by have := h.sp; omega) (by omega)
      have e9 : (x.nb : Int) + x.taken + 1 = ((x.nb + x.taken : Nat) + 1 : Int) := by omega
      have hsl : C.getLast hne * 8 + 7 < x.row.ws.length := by omega
      have hwd : ∀ t, t % 8 < 7 → (x.row.ws.set (C.getLast hne * 8 + 7) ((x.nb : Int) + x.taken + 1)).getD t 0 = x.wd t := fun t ht => by
        rw [getD_set hsl, if_neg (by omega)]
        rfl
      refine ⟨Cs.set b (C ++ [x.nb + x.taken]), ⟨by simp only; rw [hnb]; exact h.may, by simp only; rw [hsp]; exact h.sp, h2, h3, ?_, fun t ht => ?_, fun b' C' hC' t ht t' ht' => ?_⟩⟩
      · have ht : IdxM.taken { sx with row := ⟨sx.row.ws.set (C.getLast hne * 8 + 7) ((x.nb : Int) + x.taken + 1), IntKind.i64.wrap (sx.row.won + 1), sx.row.lost⟩ } = x.taken + 1 := h1
        rw [ht]
        simp only
        rw [hnb, hsp, hrow, e9]
        exact hmore
      · unfold IdxM.wd
        simp only
        rw [hrow, hwd t ht]
        exact h.ent t ht
      · have m1 := (mem_slots.1 ht).1
        have m2 := (mem_slots.1 ht').1
        unfold IdxM.wd
        simp only
        rw [hrow, hwd t m1, hwd t' m2]
        have hbl : b < Cs.length := (List.getElem?_eq_some_iff.1 hC).1
        have hin : ∀ u, u ∈ slotsG C' → x.wd u ≠ 0 → b = b' → u ∈ slotsG C := fun u hu hw hb => by
          subst hb
          rw [List.getElem?_set_self hbl] at hC'
          cases hC'
          obtain ⟨u1, u2⟩ := mem_slots.1 hu
          rcases List.mem_append.1 u2 with u2 | u2
          · exact mem_slots.2 ⟨u1, u2⟩
          · simp at u2
            exact absurd (hz u (by omega)) hw
        by_cases hb : b = b'
        · intro w1 w2 e
          exact h.uniq b C hC t (hin t ht w1 hb) t' (hin t' ht' w2 hb) w1 w2 e
        · rw [List.getElem?_set_ne hb] at hC'
          exact h.uniq b' C' hC' t ht t' ht'
end Go.Proofs.Ytmlkeackapflhaa
