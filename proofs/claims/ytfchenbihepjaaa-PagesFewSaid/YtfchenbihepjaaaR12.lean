/- Layer 12 (pages): the document's list of pages: where one stands, where words are. -/
import Derived.Test.YtfchenbihepjaaaHxS
import Derived.Test.YtfchenbihepjaaaR02
import Derived.Test.YtfchenbihepjaaaLH
namespace Go.Proofs.Ytfchenbihepjaaa
open Go Go.HX
attribute [local irreducible] Ret XRun XOps XDr XOne Does Gives
set_option maxRecDepth 4000
set_option maxHeartbeats 1000000
theorem stC0_R12 {goal next : Prop} (k : next) (hs : Hid next → goal := by (intro k; (first | (refine gC F.ref02_Page ?_; refine p_call rfl rfl (ref02_Page_spec _ _ ?_ ?_ h) ?_; iterate 2 (first | assumption | omega | (simp only []; omega) | decide)) | (refine gC F.ref12_Buffer_At ?_; refine p_call rfl rfl (ref12_Buffer_At_spec _ ?_ (h.rf2)) ?_; iterate 1 (first | assumption | omega | (simp only []; omega) | decide)) | (refine gC F.ref12_Buffer_Find ?_; refine p_call rfl rfl (ref12_Buffer_Find_spec _ ?_ ?_ ?_ (h.rf2)) ?_; iterate 3 (first | assumption | omega | (simp only []; omega) | decide)) | (refine gC F.ref02_Room ?_; refine p_call rfl rfl (ref02_Room_spec _ _ ?_ ?_ h) ?_; iterate 2 (first | assumption | omega | (simp only []; omega) | decide)) | (refine gC F.ref02_Offset ?_; refine p_call rfl rfl (ref02_Offset_spec _ _ ?_ ?_ h) ?_; iterate 2 (first | assumption | omega | (simp only []; omega) | decide)) | fail); exact k.out)) : goal := hs ⟨k⟩
/-- A page that is in: its words' slice, its words. -/
structure OneM where
  page : Int
  va : Option Addr
  vl : Nat
  vc : Nat
  l : List Int
def OneM.v (o : OneM) : Value := .slice o.va o.vl o.vc
def oneC (o : OneM) : List Value := [.int .i64 o.page, o.v]
theorem oneC_len (o : OneM) : (oneC o).length = 2 := rfl
theorem oneC_one (o : OneM) : ∀ u ∈ oneC o, u.oneCell' = true := by simp [oneC, OneM.v, Value.oneCell']
def oneH (o : OneM) : HProp := ownS T.uint64 1 o.v (ints .u64 o.l)
-- MACRO RB(os) = pt mb (.cells #[.int .i64 bits, .int .i64 fr, lv] T.haycroftref12_Buffer (0, 0)) :: ownS T.haycroftref12_One 2 lv (rows oneC (os))
/-- Where a page stands. -/
def atN : List OneM → Int → Option Nat
  | [], _ => none
  | o :: os, p => if o.page = p then some 0 else (atN os p).map (· + 1)
def atZ (os : List OneM) (p : Int) : Int := match atN os p with
  | some i => i
  | none => -1
theorem at_some : ∀ {os : List OneM} {i : Nat} {o : OneM} {p : Int}, os[i]? = some o → o.page = p → (∀ j, j < i → ∀ o', os[j]? = some o' → o'.page ≠ p) → atN os p = some i
  | [], _, _, _, h, _, _ => by simp at h
  | x :: os, 0, o, p, h, hp, _ => by
    simp only [List.getElem?_cons_zero, Option.some.injEq] at h
    subst h
    unfold atN
    rw [if_pos hp]
  | x :: os, i + 1, o, p, h, hp, hn => by
    unfold atN
    rw [if_neg (hn 0 (by omega) x rfl), at_some (os := os) (i := i) (by simpa using h) hp (fun j hj o' ho' => hn (j + 1) (by omega) o' (by simpa using ho'))]
    rfl
theorem at_none : ∀ {os : List OneM} {p : Int}, (∀ o ∈ os, o.page ≠ p) → atN os p = none
  | [], _, _ => rfl
  | x :: os, p, h => by
    unfold atN
    rw [if_neg (h x (List.mem_cons_self ..)), at_none (fun o ho => h o (List.mem_cons_of_mem _ ho))]
    rfl
theorem at_get : ∀ {os : List OneM} {i : Nat} {p : Int}, atN os p = some i → ∃ o, os[i]? = some o ∧ o.page = p
  | [], _, _, h => by simp [atN] at h
  | x :: os, i, p, h => by
    unfold atN at h
    split at h
    · rename_i hp
      simp only [Option.some.injEq] at h
      subst h
      exact ⟨x, rfl, hp⟩
    · obtain ⟨k, hk, rfl⟩ := Option.map_eq_some_iff.1 h
      obtain ⟨o, ho, hp⟩ := at_get hk
      exact ⟨o, by simpa using ho, hp⟩
theorem at_no : ∀ {os : List OneM} {p : Int}, atN os p = none → ∀ o ∈ os, o.page ≠ p
  | [], _, _, o, ho => by cases ho
  | x :: os, p, h, o, ho => by
    unfold atN at h
    split at h
    · simp at h
    · rename_i hp
      rcases List.mem_cons.1 ho with rfl | ho
      · exact hp
      · exact at_no (by simpa using h) o ho
/-- Where an address' page stands; where some words of a page are. -/
def findZ (bits : Int) (os : List OneM) (a : Int) : Int := if 281474976710655 < a then -1 else atZ os (pageZ bits a)
def runZ (bits : Int) (os : List OneM) (a n : Int) : Int × Int × Int := if findZ bits os a < 0 then (0, 0, 7) else if n < 1 ∨ roomZ bits a < n then (0, 0, 1) else (findZ bits os a, offZ bits a, 0)
theorem atZ_bnd (os : List OneM) (p : Int) : -1 ≤ atZ os p ∧ atZ os p < os.length := by
  unfold atZ
  cases h : atN os p with
  | none => exact ⟨by decide, by show (-1 : Int) < _; omega⟩
  | some i =>
    obtain ⟨o, ho, _⟩ := at_get h
    have := (List.getElem?_eq_some_iff.1 ho).1
    exact ⟨by show (-1 : Int) ≤ (i : Int); omega, by show (i : Int) < _; omega⟩
section
variable {S : SP} {w : World} {G : List HProp}

set_option maxHeartbeats 4000000 in
theorem ref12_Buffer_At_spec {mb : Nat} {bits fr : Int} {lv : Value} {os : List OneM} (p : Int) (hl : os.length ≤ 1000) (h : Sat S w (pt mb (.cells #[.int .i64 bits, .int .i64 fr, lv] T.haycroftref12_Buffer (0, 0)) :: ownS T.haycroftref12_One 2 lv (rows oneC (os)) :: G)) :
    Ret Try.prog F.ref12_Buffer_At #[.pointer (some ⟨mb, 0, none⟩), .int .i64 p] w (fun v w' => v = .int .i64 (atZ os p) ∧ Sat S w' (pt mb (.cells #[.int .i64 bits, .int .i64 fr, lv] T.haycroftref12_Buffer (0, 0)) :: ownS T.haycroftref12_One 2 lv (rows oneC (os)) :: G)) := by
  obtain ⟨va, vl, vc, rfl, hvl, _⟩ := ownS_slice h (.there .here)
  rw [rows_length oneC_len] at hvl
  refine ret_of is_ref12_Buffer_At rfl ?_
  repeat' (first | refine stPs ?_ | (refine p_cmp rfl rfl rfl rfl (fun hc => ?_) (fun hc => ?_) <;> simp only [cmpProp] at hc) | fail)
  refine x_keep [0, 1, 5] rfl ?_
  refine x_loop_inv (fun lm le w => ∃ (i : Nat), lm = vl - i ∧ i ≤ vl ∧ (∀ j, j < i → ∀ o', os[j]? = some o' → o'.page ≠ p) ∧ le = [(0, .pointer (some ⟨mb, 0, none⟩)), (1, .int .i64 p), (5, .int .i64 i)] ∧ Sat S w (pt mb (.cells #[.int .i64 bits, .int .i64 fr, .slice va vl vc] T.haycroftref12_Buffer (0, 0)) :: ownS T.haycroftref12_One 2 (.slice va vl vc) (rows oneC os) :: G)) (vl) ⟨0, rfl, by omega, fun j hj => absurd hj (by omega), rfl, h⟩ ?_
  clear h
  rintro lm le w ⟨i, rfl, hi0, hi1, rfl, h⟩ ih
  by_cases hi : i < vl
  · obtain ⟨o, ho⟩ := has_elem (show i < os.length by omega)
    obtain ⟨vo, rfl⟩ := ownS_addr (E := T.haycroftref12_One) h (.there .here) (by omega)
    by_cases hp : o.page = p
    · have e : atZ os p = i := by unfold atZ; rw [at_some ho hp hi1]
      repeat' (first | (refine gL ?_; refine p_val rfl (g_ldF (i := i) (f := 0) oneC_len rfl (ownS_rd h (by repeat first | exact .here | apply Has.there)) ho rfl (by omega)) ?_) | refine stP ?_ | (refine p_cmp rfl rfl rfl rfl (fun hc => ?_) (fun hc => ?_) <;> simp only [cmpProp] at hc) | fail)
      exact x_ret' is_ref12_Buffer_At rfl ⟨by rw [e]; rfl, h.pm2⟩
    · repeat' (first | (refine gL ?_; refine p_val rfl (g_ldF (i := i) (f := 0) oneC_len rfl (ownS_rd h (by repeat first | exact .here | apply Has.there)) ho rfl (by omega)) ?_) | refine stP ?_ | (refine p_cmp rfl rfl rfl rfl (fun hc => ?_) (fun hc => ?_) <;> simp only [cmpProp] at hc) | fail)
      refine x_keep [0, 1, 5] rfl (ih _ _ _ (by omega) ⟨i + 1, rfl, by omega, fun j hj o' ho' => ?_, rfl, h.pm2⟩)
      by_cases e : j = i
      · subst e; rw [ho] at ho'; cases ho'; exact hp
      · exact hi1 j (by omega) o' ho'
  · have e : atZ os p = -1 := by
      unfold atZ
      rw [at_none (fun o ho => by
        obtain ⟨j, hj⟩ := List.mem_iff_getElem?.1 ho
        have := (List.getElem?_eq_some_iff.1 hj).1
        exact hi1 j (by omega) o hj)]
    repeat' (first | refine stPs ?_ | (refine p_cmp rfl rfl rfl rfl (fun hc => ?_) (fun hc => ?_) <;> simp only [cmpProp] at hc) | fail)
    exact x_ret' is_ref12_Buffer_At rfl ⟨by rw [e]; rfl, h.pm2⟩

theorem ref12_Buffer_Find_spec {mb : Nat} {bits fr : Int} {lv : Value} {os : List OneM} (a : Int) (a0 : 0 ≤ a) (a1 : a ≤ 18446744073709551615) (hl : os.length ≤ 1000) (h : Sat S w (pt mb (.cells #[.int .i64 bits, .int .i64 fr, lv] T.haycroftref12_Buffer (0, 0)) :: ownS T.haycroftref12_One 2 lv (rows oneC (os)) :: G)) :
    Ret Try.prog F.ref12_Buffer_Find #[.pointer (some ⟨mb, 0, none⟩), .int .u64 a] w (fun v w' => v = .int .i64 (findZ bits os a) ∧ Sat S w' (pt mb (.cells #[.int .i64 bits, .int .i64 fr, lv] T.haycroftref12_Buffer (0, 0)) :: ownS T.haycroftref12_One 2 lv (rows oneC (os)) :: G)) := by
  refine ret_of is_ref12_Buffer_Find rfl ?_
  by_cases hc : 281474976710655 < a
  · rw [findZ, if_pos hc]
    repeat' (first | refine stPs ?_ | (refine stC0_R12 ?_; rintro _ w ⟨rfl, h⟩) | (refine p_cmp rfl rfl rfl rfl (fun hc => ?_) (fun hc => ?_) <;> simp only [cmpProp] at hc) | fail)
    exact x_ret' is_ref12_Buffer_Find rfl ⟨rfl, h⟩
  · rw [findZ, if_neg hc]
    repeat' (first | (refine gC F.ref12_Buffer_At ?_; refine p_call rfl rfl (ref12_Buffer_At_spec (pageZ bits a) hl (h.rf2)) ?_; rintro _ w ⟨rfl, h⟩) | refine stP ?_ | (refine stC0_R12 ?_; rintro _ w ⟨rfl, h⟩) | (refine p_cmp rfl rfl rfl rfl (fun hc => ?_) (fun hc => ?_) <;> simp only [cmpProp] at hc) | fail)
    exact x_ret' is_ref12_Buffer_Find rfl ⟨rfl, h.pm2⟩

set_option maxHeartbeats 4000000 in
theorem ref12_Buffer_Run_spec {mb : Nat} {bits fr : Int} {lv : Value} {os : List OneM} (a n : Int) (a0 : 0 ≤ a) (a1 : a ≤ 18446744073709551615) (hl : os.length ≤ 1000) (h : Sat S w (pt mb (.cells #[.int .i64 bits, .int .i64 fr, lv] T.haycroftref12_Buffer (0, 0)) :: ownS T.haycroftref12_One 2 lv (rows oneC (os)) :: G)) :
    Ret Try.prog F.ref12_Buffer_Run #[.pointer (some ⟨mb, 0, none⟩), .int .u64 a, .int .i64 n] w (fun v w' => v = .tuple #[.int .i64 (runZ bits os a n).1, .int .i64 (runZ bits os a n).2.1, .int .i64 (runZ bits os a n).2.2] ∧ Sat S w' (pt mb (.cells #[.int .i64 bits, .int .i64 fr, lv] T.haycroftref12_Buffer (0, 0)) :: ownS T.haycroftref12_One 2 lv (rows oneC (os)) :: G)) := by
  refine ret_of is_ref12_Buffer_Run rfl ?_
  by_cases hf : findZ bits os a < 0
  · rw [runZ, if_pos hf]
    repeat' (first | (refine gC F.ref12_Buffer_Find ?_; refine p_call rfl rfl (ref12_Buffer_Find_spec a a0 a1 hl (h.rf2)) ?_; rintro _ w ⟨rfl, h⟩) | refine stP ?_ | (refine stC0_R12 ?_; rintro _ w ⟨rfl, h⟩) | (refine p_cmp rfl rfl rfl rfl (fun hc => ?_) (fun hc => ?_) <;> simp only [cmpProp] at hc) | fail)
    exact x_ret' is_ref12_Buffer_Run rfl ⟨rfl, h.pm2⟩
  · by_cases hn : n < 1 ∨ roomZ bits a < n
    · rw [runZ, if_neg hf, if_pos hn]
      repeat' (first | (refine gC F.ref12_Buffer_Find ?_; refine p_call rfl rfl (ref12_Buffer_Find_spec a a0 a1 hl (h.rf2)) ?_; rintro _ w ⟨rfl, h⟩) | refine stP ?_ | (refine stC0_R12 ?_; rintro _ w ⟨rfl, h⟩) | (refine p_cmp rfl rfl rfl rfl (fun hc => ?_) (fun hc => ?_) <;> simp only [cmpProp] at hc) | fail)
      all_goals first | (exfalso; omega) | exact x_ret' is_ref12_Buffer_Run rfl ⟨rfl, h.pm2⟩
    · rw [runZ, if_neg hf, if_neg hn]
      repeat' (first | (refine gC F.ref12_Buffer_Find ?_; refine p_call rfl rfl (ref12_Buffer_Find_spec a a0 a1 hl (h.rf2)) ?_; rintro _ w ⟨rfl, h⟩) | refine stP ?_ | (refine stC0_R12 ?_; rintro _ w ⟨rfl, h⟩) | (refine p_cmp rfl rfl rfl rfl (fun hc => ?_) (fun hc => ?_) <;> simp only [cmpProp] at hc) | fail)
      all_goals first | (exfalso; omega) | exact x_ret' is_ref12_Buffer_Run rfl ⟨rfl, h.pm2⟩
end
end Go.Proofs.Ytfchenbihepjaaa
