/- Layer 14 (tail): what each function computes. -/
import Derived.Test.YtflbfdmmfoigaaaGreatHxS
import Derived.Test.YtflbfdmmfoigaaaGreatP02
import Derived.Test.YtflbfdmmfoigaaaGreatL08
import Derived.Test.YtflbfdmmfoigaaaGreatP05
namespace Go.Proofs.YtflbfdmmfoigaaaGreat
open Go Go.HX
attribute [local irreducible] Ret XRun XOps XDr XOne Does Gives
set_option maxRecDepth 4000
set_option maxHeartbeats 1000000
/-- Where there is room: the size's bits, the pages, the page, the offset as it is. -/
structure TailM where
  bits : Int
  space : Int
  page : Int
  off : Int
def tailB (t : TailM) : Prop := (5 ≤ t.bits ∧ t.bits ≤ 9) ∧ 1 ≤ t.space ∧ t.space ≤ 64 ∧ 0 ≤ t.page ∧ t.page < t.space ∧ 0 ≤ t.off ∧ t.off ≤ 2 * sizeZ t.bits
def cellT (t : TailM) : Int := t.page * 4294967296 + t.off
def isTail (b c : Nat) (t : TailM) : HProp := hex fun r => hpure (r.ws = [cellT t] ∧ tailB t) (sep (pt b (.cells #[.int .i64 t.bits, .int .i64 t.space, .pointer (some ⟨c, 0, none⟩)] T.tail_Tail (0, 0))) (isRow c r))
def isLast (t : TailM) : Prop := t.space ≤ t.page + 1
instance (t : TailM) : Decidable (isLast t) := inferInstanceAs (Decidable (_ ≤ _))
def nextT (t : TailM) : Int × TailM := if isLast t then (9, t) else (0, ⟨t.bits, t.space, t.page + 1, 0⟩)
def tturnT (t : TailM) : Int × TailM := if sizeZ t.bits < t.off then nextT t else (7, t)
def beginT (t : TailM) (p : Int) : Int × TailM := if p < 0 ∨ t.space ≤ p then (1, t) else (0, ⟨t.bits, t.space, p, if p = 0 then 1 else 0⟩)
def takeT (t : TailM) (n : Int) : (Int × Int × Int) × TailM :=
  if n < 1 then ((0, 0, 1), t) else if sizeZ t.bits < n then ((0, 0, 5), t)
  else if sizeZ t.bits < t.off then ((0, if isLast t then 4 else 3, 0), t)
  else if sizeZ t.bits < t.off + n then ((0, if isLast t then 4 else 2, 0), ⟨t.bits, t.space, t.page, t.off + n⟩)
  else ((t.page * sizeZ t.bits + t.off, 1, 0), ⟨t.bits, t.space, t.page, t.off + n⟩)
theorem tsize {t : TailM} (h : tailB t) : 32 ≤ sizeZ t.bits ∧ sizeZ t.bits ≤ 512 := by
  have := size_cases t.bits
  have := h.1
  omega
theorem tfirst {t : TailM} (h : tailB t) : (ofZ t.bits t.page 0).1 = t.page * sizeZ t.bits ∧ 0 ≤ t.page * sizeZ t.bits ∧ t.page * sizeZ t.bits ≤ 32768 := by
  have h2 := h.2
  have h1 := h.1
  rcases size_cases t.bits with ⟨hb, hs⟩ | ⟨_, hs⟩ | ⟨_, hs⟩ | ⟨_, hs⟩ | ⟨_, hs⟩ | ⟨_, hs⟩
  · omega
  all_goals
    refine ⟨?_, by rw [hs]; omega, by rw [hs]; omega⟩
    rw [ofZ, hs, if_neg (by omega), if_neg (by omega)]
    simp
theorem tcell {t : TailM} (h : tailB t) : shr64 (cellT t) 32 = t.page ∧ (((cellT t).toNat &&& (mostZ 32).toNat : Nat) : Int) = t.off ∧ 0 ≤ cellT t ∧ cellT t ≤ 1000000000000 := by
  have hz := tsize h
  have h2 := h.2
  have hc : cellT t = t.page * 4294967296 + t.off := rfl
  refine ⟨?_, ?_, by omega, by omega⟩
  · unfold shr64
    rw [show ((2 : Int) ^ min (32 : Int).toNat 64) = 4294967296 from rfl]
    omega
  · rw [show mostZ 32 = (2 : Int) ^ 32 - 1 from rfl, and_low 32 (by omega)]
    rw [show ((2 : Int) ^ 32) = 4294967296 from rfl]
    omega
section
variable {S : SP} {w : World} {G : List HProp}
theorem isTail_open {b c : Nat} {t : TailM} (h : Sat S w (isTail b c t :: G)) : ∃ r, r.ws = [cellT t] ∧ tailB t ∧ Sat S w (pt b (.cells #[.int .i64 t.bits, .int .i64 t.space, .pointer (some ⟨c, 0, none⟩)] T.tail_Tail (0, 0)) :: isRow c r :: G) := by
  unfold isTail at h
  rw [Sat_ex] at h
  obtain ⟨r, h⟩ := h
  rw [Sat_pure, Sat_sep] at h
  exact ⟨r, h.1.1, h.1.2, h.2⟩
theorem isTail_shut {b c : Nat} {t : TailM} {r : RowM} (h : Sat S w (pt b (.cells #[.int .i64 t.bits, .int .i64 t.space, .pointer (some ⟨c, 0, none⟩)] T.tail_Tail (0, 0)) :: isRow c r :: G)) (hr : r.ws = [cellT t]) (ht : tailB t) : Sat S w (isTail b c t :: G) := by
  unfold isTail
  rw [Sat_ex]
  exact ⟨r, by rw [Sat_pure, Sat_sep]; exact ⟨⟨hr, ht⟩, h⟩⟩

theorem tail_first_spec (p : Int) (h : Sat S w G) : Ret Tryz.prog F.tail_first #[.int .i64 p] w (fun v w' => v = .int .i64 (if p = 0 then 1 else 0) ∧ Sat S w' G) := by
  refine ret_of is_tail_first rfl ?_
  by_cases hp : p = 0
  · rw [if_pos hp]
    repeat' (first | refine stPs ?_ | (refine p_cmp rfl rfl rfl rfl (fun hc => ?_) (fun hc => ?_) <;> simp only [cmpProp] at hc) | fail)
    exact x_ret' is_tail_first rfl ⟨rfl, h⟩
  · rw [if_neg hp]
    repeat' (first | refine stPs ?_ | (refine p_cmp rfl rfl rfl rfl (fun hc => ?_) (fun hc => ?_) <;> simp only [cmpProp] at hc) | fail)
    exact x_ret' is_tail_first rfl ⟨rfl, h⟩

theorem tail_pack_spec (p o : Int) (p0 : 0 ≤ p) (p1 : p ≤ 64) (o0 : 0 ≤ o) (o1 : o ≤ 2000) (h : Sat S w G) : Ret Tryz.prog F.tail_pack #[.int .i64 p, .int .i64 o] w (fun v w' => v = .int .u64 (p * 4294967296 + o) ∧ Sat S w' G) := by
  refine ret_of is_tail_pack rfl ?_
  have e1 : shl64 p 32 = p * 4294967296 := by
    unfold shl64
    rw [show ((2 : Int) ^ min (32 : Int).toNat 64) = 4294967296 from rfl]
    omega
  have e2 : (((p * 4294967296).toNat ||| o.toNat : Nat) : Int) = p * 4294967296 + o := or_low 32 p0 o0 (by rw [show ((2 : Int) ^ 32) = 4294967296 from rfl]; omega)
  repeat' (first | (refine gB .shl ?_; refine p_val rfl (g_shl_u rfl rfl (by omega)) ?_; rw [e1]) | (refine gB .or ?_; refine p_val rfl (g_or_u rfl rfl (by omega) (by omega) (by omega) (by omega)) ?_; rw [e2]) | refine stP ?_ | fail)
  exact x_ret' is_tail_pack rfl ⟨rfl, h⟩

theorem tail_Tail_now_spec {b c : Nat} {t : TailM} (h : Sat S w (isTail b c t :: G)) : Ret Tryz.prog F.tail_Tail_now #[.pointer (some ⟨b, 0, none⟩)] w (fun v w' => v = .tuple #[.int .i64 t.page, .int .i64 t.off] ∧ Sat S w' (isTail b c t :: G)) := by
  obtain ⟨r, hr, hok, h⟩ := isTail_open h
  refine ret_of is_tail_Tail_now rfl ?_
  obtain ⟨e1, e2, e3, e4⟩ := tcell hok
  have hz := tsize hok
  have h2 := hok.2
  have hl : r.load 0 = cellT t := by rw [RowM.load, hr]; rfl
  repeat' (first | refine stPs ?_ | fail)
  refine p_call rfl rfl (cell_Row_Load_spec 0 (h.pick (.there .here))) ?_
  rw [hl]
  rintro _ w ⟨rfl, h⟩
  have hm : mostZ 32 = 4294967295 := rfl
  repeat' (first | (refine gB .shr ?_; refine p_val rfl (g_shr_u rfl rfl (by omega)) ?_; rw [e1]) | refine stP ?_ | fail)
  refine p_call rfl rfl (field_Most_spec 32 h) ?_
  rintro _ w ⟨rfl, h⟩
  repeat' (first | (refine gB .and ?_; refine p_val rfl (g_and_u rfl rfl (by omega) (by omega) (by omega) (by omega)) ?_; rw [e2]) | refine stP ?_ | fail)
  exact x_ret' is_tail_Tail_now rfl ⟨rfl, isTail_shut (h.pick (.there .here)) hr hok⟩

theorem tail_Tail_size_spec {b c : Nat} {t : TailM} (h : Sat S w (isTail b c t :: G)) : Ret Tryz.prog F.tail_Tail_size #[.pointer (some ⟨b, 0, none⟩)] w (fun v w' => v = .int .i64 (sizeZ t.bits) ∧ Sat S w' (isTail b c t :: G)) := by
  obtain ⟨r, hr, hok, h⟩ := isTail_open h
  refine ret_of is_tail_Tail_size rfl ?_
  repeat' (first | refine stPs ?_ | fail)
  refine p_call rfl rfl (place_Size_spec t.bits h) ?_
  rintro _ w ⟨rfl, h⟩
  repeat' (first | refine stPs ?_ | fail)
  exact x_ret' is_tail_Tail_size rfl ⟨rfl, isTail_shut h hr hok⟩

theorem tail_Tail_Page_spec {b c : Nat} {t : TailM} (h : Sat S w (isTail b c t :: G)) : Ret Tryz.prog F.tail_Tail_Page #[.pointer (some ⟨b, 0, none⟩)] w (fun v w' => v = .int .i64 t.page ∧ Sat S w' (isTail b c t :: G)) := by
  refine ret_of is_tail_Tail_Page rfl ?_
  repeat' (first | refine stPs ?_ | fail)
  refine p_call rfl rfl (tail_Tail_now_spec h) ?_
  rintro _ w ⟨rfl, h⟩
  repeat' (first | refine stPs ?_ | fail)
  exact x_ret' is_tail_Tail_Page rfl ⟨rfl, h⟩

theorem tail_Tail_Over_spec {b c : Nat} {t : TailM} (h : Sat S w (isTail b c t :: G)) : Ret Tryz.prog F.tail_Tail_Over #[.pointer (some ⟨b, 0, none⟩)] w (fun v w' => BoolIs v (sizeZ t.bits < t.off) ∧ Sat S w' (isTail b c t :: G)) := by
  refine ret_of is_tail_Tail_Over rfl ?_
  repeat' (first | refine stPs ?_ | (refine p_cmp rfl rfl rfl rfl (fun hc => ?_) (fun hc => ?_) <;> simp only [cmpProp] at hc) | fail)
  refine p_call rfl rfl (tail_Tail_now_spec h) ?_
  rintro _ w ⟨rfl, h⟩
  repeat' (first | refine stPs ?_ | (refine p_cmp rfl rfl rfl rfl (fun hc => ?_) (fun hc => ?_) <;> simp only [cmpProp] at hc) | fail)
  refine p_call rfl rfl (tail_Tail_size_spec h) ?_
  rintro _ w ⟨rfl, h⟩
  repeat' (first | refine stPs ?_ | (refine p_cmp rfl rfl rfl rfl (fun hc => ?_) (fun hc => ?_) <;> simp only [cmpProp] at hc) | fail)
  all_goals refine x_ret' is_tail_Tail_Over rfl ⟨?_, h⟩
  all_goals first | exact .t (by omega) | exact .f (by omega)

theorem tail_Tail_Last_spec {b c : Nat} {t : TailM} (h : Sat S w (isTail b c t :: G)) : Ret Tryz.prog F.tail_Tail_Last #[.pointer (some ⟨b, 0, none⟩)] w (fun v w' => BoolIs v (isLast t) ∧ Sat S w' (isTail b c t :: G)) := by
  refine ret_of is_tail_Tail_Last rfl ?_
  obtain ⟨r, hr, hok, h⟩ := isTail_open h
  have h2 := hok.2
  repeat' (first | refine stPs ?_ | (refine p_cmp rfl rfl rfl rfl (fun hc => ?_) (fun hc => ?_) <;> simp only [cmpProp] at hc) | (refine r_cmp rfl rfl rfl rfl rfl (fun hc => ?_) (fun hc => ?_) <;> simp only [cmpProp] at hc) | (refine x_drawn rfl ?_; have h := h.drew) | refine x_drawn rfl ?_ | fail)
  refine r_call rfl rfl rfl (tail_Tail_Page_spec (isTail_shut h hr hok)) ?_
  rintro _ w ⟨rfl, h⟩
  obtain ⟨r, hr, _, h⟩ := isTail_open h
  refine nowa ?_
  repeat' (first | refine stPs ?_ | (refine p_cmp rfl rfl rfl rfl (fun hc => ?_) (fun hc => ?_) <;> simp only [cmpProp] at hc) | (refine r_cmp rfl rfl rfl rfl rfl (fun hc => ?_) (fun hc => ?_) <;> simp only [cmpProp] at hc) | (refine x_drawn rfl ?_; have h := h.drew) | refine x_drawn rfl ?_ | fail)
  all_goals refine x_ret' is_tail_Tail_Last rfl ⟨?_, isTail_shut h hr hok⟩
  all_goals unfold isLast
  all_goals first | exact .t (by omega) | exact .f (by omega)

theorem tail_Tail_none_spec {b c : Nat} {t : TailM} (o : Int) (h : Sat S w (isTail b c t :: G)) : Ret Tryz.prog F.tail_Tail_none #[.pointer (some ⟨b, 0, none⟩), .int .i64 o] w (fun v w' => v = .int .i64 (if isLast t then 4 else o) ∧ Sat S w' (isTail b c t :: G)) := by
  refine ret_of is_tail_Tail_none rfl ?_
  repeat' (first | refine stPs ?_ | fail)
  refine p_call rfl rfl (tail_Tail_Last_spec h) ?_
  rintro _ w ⟨⟨rfl, hp⟩ | ⟨rfl, hp⟩, h⟩
  · rw [if_pos hp]
    repeat' (first | refine stPs ?_ | fail)
    exact x_ret' is_tail_Tail_none rfl ⟨rfl, h⟩
  · rw [if_neg hp]
    repeat' (first | refine stPs ?_ | fail)
    exact x_ret' is_tail_Tail_none rfl ⟨rfl, h⟩

theorem tail_Tail_next_spec {b c : Nat} {t : TailM} (h : Sat S w (isTail b c t :: G)) : Ret Tryz.prog F.tail_Tail_next #[.pointer (some ⟨b, 0, none⟩)] w (fun v w' => v = .int .i64 (nextT t).1 ∧ Sat S w' (isTail b c (nextT t).2 :: G)) := by
  refine ret_of is_tail_Tail_next rfl ?_
  repeat' (first | refine stPs ?_ | (refine x_drawn rfl ?_; have h := h.drew) | refine x_drawn rfl ?_ | fail)
  refine p_call rfl rfl (tail_Tail_Last_spec h) ?_
  rintro _ w ⟨⟨rfl, hp⟩ | ⟨rfl, hp⟩, h⟩
  · rw [nextT, if_pos hp]
    repeat' (first | refine stPs ?_ | (refine x_drawn rfl ?_; have h := h.drew) | refine x_drawn rfl ?_ | fail)
    exact x_ret' is_tail_Tail_next rfl ⟨rfl, h⟩
  · rw [nextT, if_neg hp]
    unfold isLast at hp
    obtain ⟨r, hr, hok, h⟩ := isTail_open h
    have h2 := hok.2
    have hz := tsize hok
    repeat' (first | refine stPs ?_ | (refine x_drawn rfl ?_; have h := h.drew) | refine x_drawn rfl ?_ | fail)
    refine r_call rfl rfl rfl (tail_Tail_Page_spec (isTail_shut h hr hok)) ?_
    rintro _ w ⟨rfl, h⟩
    obtain ⟨r, hr, _, h⟩ := isTail_open h
    refine nowa ?_
    repeat' (first | refine stPs ?_ | (refine x_drawn rfl ?_; have h := h.drew) | refine x_drawn rfl ?_ | fail)
    refine r_call rfl rfl rfl (tail_pack_spec (t.page + 1) 0 (by omega) (by omega) (by omega) (by omega) h) ?_
    rintro _ w ⟨rfl, h⟩
    refine nowa ?_
    repeat' (first | refine stPs ?_ | (refine x_drawn rfl ?_; have h := h.drew) | refine x_drawn rfl ?_ | fail)
    refine r_call rfl rfl rfl (cell_Row_Store_spec 0 ((t.page + 1) * 4294967296 + 0) (by omega) (by omega) (h.pick (.there .here))) ?_
    have hm : r.may 0 = 0 := by rw [RowM.may, hr]; rfl
    rw [hm]
    rintro _ w ⟨rfl, h⟩
    have hs : (r.store 0 ((t.page + 1) * 4294967296 + 0)).ws = [cellT ⟨t.bits, t.space, t.page + 1, 0⟩] := by rw [RowM.store, if_pos (by rw [hr]; simp)]; simp only [hr]; rfl
    have h := isTail_shut (t := ⟨t.bits, t.space, t.page + 1, 0⟩) (h.pick (.there .here)) hs ⟨hok.1, by simp only; omega, by simp only; omega, by simp only; omega, by simp only; omega, by simp only; omega, by simp only; omega⟩
    refine nowa ?_
    repeat' (first | refine stPs ?_ | (refine x_drawn rfl ?_; have h := h.drew) | refine x_drawn rfl ?_ | fail)
    exact x_ret' is_tail_Tail_next rfl ⟨rfl, h⟩

theorem tail_Tail_Turn_spec {b c : Nat} {t : TailM} (h : Sat S w (isTail b c t :: G)) : Ret Tryz.prog F.tail_Tail_Turn #[.pointer (some ⟨b, 0, none⟩)] w (fun v w' => v = .int .i64 (tturnT t).1 ∧ Sat S w' (isTail b c (tturnT t).2 :: G)) := by
  refine ret_of is_tail_Tail_Turn rfl ?_
  repeat' (first | refine stPs ?_ | fail)
  refine p_call rfl rfl (tail_Tail_Over_spec h) ?_
  rintro _ w ⟨⟨rfl, hp⟩ | ⟨rfl, hp⟩, h⟩
  · rw [tturnT, if_pos hp]
    repeat' (first | refine stPs ?_ | fail)
    refine p_call rfl rfl (tail_Tail_next_spec h) ?_
    rintro _ w ⟨rfl, h⟩
    repeat' (first | refine stPs ?_ | fail)
    exact x_ret' is_tail_Tail_Turn rfl ⟨rfl, h⟩
  · rw [tturnT, if_neg hp]
    repeat' (first | refine stPs ?_ | fail)
    exact x_ret' is_tail_Tail_Turn rfl ⟨rfl, h⟩

theorem tail_Tail_Begin_spec {b c : Nat} {t : TailM} (p : Int) (h : Sat S w (isTail b c t :: G)) : Ret Tryz.prog F.tail_Tail_Begin #[.pointer (some ⟨b, 0, none⟩), .int .i64 p] w (fun v w' => v = .int .i64 (beginT t p).1 ∧ Sat S w' (isTail b c (beginT t p).2 :: G)) := by
  refine ret_of is_tail_Tail_Begin rfl ?_
  obtain ⟨r, hr, hok, h⟩ := isTail_open h
  have h2 := hok.2
  have hz := tsize hok
  by_cases hp : p < 0 ∨ t.space ≤ p
  · rw [beginT, if_pos hp]
    repeat' (first | refine stPs ?_ | (refine p_cmp rfl rfl rfl rfl (fun hc => ?_) (fun hc => ?_) <;> simp only [cmpProp] at hc) | (refine r_cmp rfl rfl rfl rfl rfl (fun hc => ?_) (fun hc => ?_) <;> simp only [cmpProp] at hc) | (refine x_drawn rfl ?_; have h := h.drew) | refine x_drawn rfl ?_ | fail)
    all_goals first | (exfalso; omega) | exact x_ret' is_tail_Tail_Begin rfl ⟨rfl, isTail_shut h hr hok⟩
  · rw [beginT, if_neg hp]
    obtain ⟨f, hf⟩ : ∃ f : Int, f = if p = 0 then 1 else 0 := ⟨_, rfl⟩
    have hf2 : 0 ≤ f ∧ f ≤ 1 := by subst hf; split <;> decide
    rw [← hf]
    repeat' (first | refine stPs ?_ | (refine p_cmp rfl rfl rfl rfl (fun hc => ?_) (fun hc => ?_) <;> simp only [cmpProp] at hc) | (refine r_cmp rfl rfl rfl rfl rfl (fun hc => ?_) (fun hc => ?_) <;> simp only [cmpProp] at hc) | (refine x_drawn rfl ?_; have h := h.drew) | refine x_drawn rfl ?_ | fail)
    refine r_call rfl rfl rfl (tail_first_spec p h) ?_
    rw [← hf]
    rintro _ w ⟨rfl, h⟩
    refine nowa ?_
    repeat' (first | refine stPs ?_ | (refine p_cmp rfl rfl rfl rfl (fun hc => ?_) (fun hc => ?_) <;> simp only [cmpProp] at hc) | (refine r_cmp rfl rfl rfl rfl rfl (fun hc => ?_) (fun hc => ?_) <;> simp only [cmpProp] at hc) | (refine x_drawn rfl ?_; have h := h.drew) | refine x_drawn rfl ?_ | fail)
    refine r_call rfl rfl rfl (tail_pack_spec p f (by omega) (by omega) (by omega) (by omega) h) ?_
    rintro _ w ⟨rfl, h⟩
    refine nowa ?_
    repeat' (first | refine stPs ?_ | (refine p_cmp rfl rfl rfl rfl (fun hc => ?_) (fun hc => ?_) <;> simp only [cmpProp] at hc) | (refine r_cmp rfl rfl rfl rfl rfl (fun hc => ?_) (fun hc => ?_) <;> simp only [cmpProp] at hc) | (refine x_drawn rfl ?_; have h := h.drew) | refine x_drawn rfl ?_ | fail)
    refine r_call rfl rfl rfl (cell_Row_Store_spec 0 (p * 4294967296 + f) (by omega) (by omega) (h.pick (.there .here))) ?_
    have hm : r.may 0 = 0 := by rw [RowM.may, hr]; rfl
    rw [hm]
    rintro _ w ⟨rfl, h⟩
    have hs : (r.store 0 (p * 4294967296 + f)).ws = [cellT ⟨t.bits, t.space, p, f⟩] := by rw [RowM.store, if_pos (by rw [hr]; simp)]; simp only [hr]; rfl
    have h := isTail_shut (t := ⟨t.bits, t.space, p, f⟩) (h.pick (.there .here)) hs ⟨hok.1, by simp only; omega, by simp only; omega, by simp only; omega, by simp only; omega, by simp only; omega, by simp only; omega⟩
    refine nowa ?_
    repeat' (first | refine stPs ?_ | (refine p_cmp rfl rfl rfl rfl (fun hc => ?_) (fun hc => ?_) <;> simp only [cmpProp] at hc) | (refine r_cmp rfl rfl rfl rfl rfl (fun hc => ?_) (fun hc => ?_) <;> simp only [cmpProp] at hc) | (refine x_drawn rfl ?_; have h := h.drew) | refine x_drawn rfl ?_ | fail)
    exact x_ret' is_tail_Tail_Begin rfl ⟨rfl, h⟩

set_option maxHeartbeats 3000000 in
theorem tail_Tail_Take_spec {b c : Nat} {t : TailM} (n : Int) (h : Sat S w (isTail b c t :: G)) : Ret Tryz.prog F.tail_Tail_Take #[.pointer (some ⟨b, 0, none⟩), .int .i64 n] w (fun v w' => v = .tuple #[.int .u64 (takeT t n).1.1, .int .i64 (takeT t n).1.2.1, .int .i64 (takeT t n).1.2.2] ∧ Sat S w' (isTail b c (takeT t n).2 :: G)) := by
  refine ret_of is_tail_Tail_Take rfl ?_
  obtain ⟨r, hr, hok, h⟩ := isTail_open h
  have h := isTail_shut h hr hok
  have h2 := hok.2
  have hz := tsize hok
  by_cases h1 : n < 1
  · rw [takeT, if_pos h1]
    repeat' (first | refine stPs ?_ | (refine p_cmp rfl rfl rfl rfl (fun hc => ?_) (fun hc => ?_) <;> simp only [cmpProp] at hc) | fail)
    exact x_ret' is_tail_Tail_Take rfl ⟨rfl, h⟩
  by_cases h3 : sizeZ t.bits < n
  · rw [takeT, if_neg h1, if_pos h3]
    repeat' (first | refine stPs ?_ | (refine p_cmp rfl rfl rfl rfl (fun hc => ?_) (fun hc => ?_) <;> simp only [cmpProp] at hc) | fail)
    refine p_call rfl rfl (tail_Tail_size_spec h) ?_
    rintro _ w ⟨rfl, h⟩
    repeat' (first | refine stPs ?_ | (refine p_cmp rfl rfl rfl rfl (fun hc => ?_) (fun hc => ?_) <;> simp only [cmpProp] at hc) | fail)
    exact x_ret' is_tail_Tail_Take rfl ⟨rfl, h⟩
  rw [takeT, if_neg h1, if_neg h3]
  repeat' (first | refine stPs ?_ | (refine p_cmp rfl rfl rfl rfl (fun hc => ?_) (fun hc => ?_) <;> simp only [cmpProp] at hc) | fail)
  refine p_call rfl rfl (tail_Tail_size_spec h) ?_
  rintro _ w ⟨rfl, h⟩
  repeat' (first | refine stPs ?_ | (refine p_cmp rfl rfl rfl rfl (fun hc => ?_) (fun hc => ?_) <;> simp only [cmpProp] at hc) | fail)
  refine p_call rfl rfl (tail_Tail_Over_spec h) ?_
  rintro _ w ⟨⟨rfl, hp⟩ | ⟨rfl, hp⟩, h⟩
  · rw [if_pos hp]
    repeat' (first | refine stPs ?_ | (refine p_cmp rfl rfl rfl rfl (fun hc => ?_) (fun hc => ?_) <;> simp only [cmpProp] at hc) | fail)
    refine p_call rfl rfl (tail_Tail_none_spec 3 h) ?_
    rintro _ w ⟨rfl, h⟩
    repeat' (first | refine stPs ?_ | (refine p_cmp rfl rfl rfl rfl (fun hc => ?_) (fun hc => ?_) <;> simp only [cmpProp] at hc) | fail)
    exact x_ret' is_tail_Tail_Take rfl ⟨rfl, h⟩
  · rw [if_neg hp]
    obtain ⟨r, hr, _, h⟩ := isTail_open h
    obtain ⟨e1, e2, e3, e4⟩ := tcell hok
    obtain ⟨f1, f2, f3⟩ := tfirst hok
    have hl : r.load 0 = cellT t := by rw [RowM.load, hr]; rfl
    have hm0 : r.may 0 = 0 := by rw [RowM.may, hr]; rfl
    have hm : mostZ 32 = 4294967295 := rfl
    repeat' (first | refine stPs ?_ | (refine p_cmp rfl rfl rfl rfl (fun hc => ?_) (fun hc => ?_) <;> simp only [cmpProp] at hc) | fail)
    refine p_call rfl rfl (cell_Row_Add_spec 0 n (h.pick (.there .here))) ?_
    rw [hl, hm0]
    rintro _ w ⟨rfl, h⟩
    have hc : cellT t = t.page * 4294967296 + t.off := rfl
    have hs : (r.add 0 n).ws = [cellT ⟨t.bits, t.space, t.page, t.off + n⟩] := by
      have e : (cellT t + n) % 18446744073709551616 = cellT ⟨t.bits, t.space, t.page, t.off + n⟩ := by
        unfold cellT
        simp only
        omega
      rw [RowM.add, if_pos (by unfold RowM.there; rw [hr]; simp), ← e]
      simp only [hr]
      rfl
    have h := isTail_shut (t := ⟨t.bits, t.space, t.page, t.off + n⟩) (h.pick (.there .here)) hs ⟨hok.1, by simp only; omega, by simp only; omega, by simp only; omega, by simp only; omega, by simp only; omega, by simp only; omega⟩
    repeat' (first | refine stPs ?_ | (refine p_cmp rfl rfl rfl rfl (fun hc => ?_) (fun hc => ?_) <;> simp only [cmpProp] at hc) | fail)
    refine p_call rfl rfl (field_Most_spec 32 h) ?_
    rintro _ w ⟨rfl, h⟩
    repeat' (first | (refine gB .and ?_; refine p_val rfl (g_and_u rfl rfl (by omega) (by omega) (by omega) (by omega)) ?_; rw [e2]) | refine stP ?_ | (refine p_cmp rfl rfl rfl rfl (fun hc => ?_) (fun hc => ?_) <;> simp only [cmpProp] at hc) | fail)
    refine p_call rfl rfl (tail_Tail_size_spec h) ?_
    rintro _ w ⟨rfl, h⟩
    by_cases h5 : sizeZ t.bits < t.off + n
    · rw [if_pos h5]
      repeat' (first | refine stPs ?_ | (refine p_cmp rfl rfl rfl rfl (fun hc => ?_) (fun hc => ?_) <;> simp only [cmpProp] at hc) | fail)
      refine p_call rfl rfl (tail_Tail_none_spec 2 h) ?_
      rintro _ w ⟨rfl, h⟩
      repeat' (first | refine stPs ?_ | (refine p_cmp rfl rfl rfl rfl (fun hc => ?_) (fun hc => ?_) <;> simp only [cmpProp] at hc) | fail)
      exact x_ret' is_tail_Tail_Take rfl ⟨rfl, h⟩
    · rw [if_neg h5]
      obtain ⟨r, hr, hok', h⟩ := isTail_open h
      repeat' (first | (refine gB .shr ?_; refine p_val rfl (g_shr_u rfl rfl (by omega)) ?_; rw [e1]) | refine stP ?_ | (refine p_cmp rfl rfl rfl rfl (fun hc => ?_) (fun hc => ?_) <;> simp only [cmpProp] at hc) | fail)
      refine p_call rfl rfl (place_First_spec t.bits t.page (by omega) h) ?_
      rw [f1]
      rintro _ w ⟨rfl, h⟩
      generalize t.page * sizeZ t.bits = q at *
      repeat' (first | refine stPs ?_ | (refine p_cmp rfl rfl rfl rfl (fun hc => ?_) (fun hc => ?_) <;> simp only [cmpProp] at hc) | fail)
      exact x_ret' is_tail_Tail_Take rfl ⟨rfl, isTail_shut h hr hok'⟩

theorem tail_New_spec (bits space : Int) (h : Sat S w G) : Ret Tryz.prog F.tail_New #[.int .i64 bits, .int .i64 space] w (fun v w' => (¬ ((5 ≤ bits ∧ bits ≤ 9) ∧ 1 ≤ space ∧ space ≤ 64) ∧ v = .tuple #[.pointer none, .int .i64 1] ∧ Sat S w' G) ∨ (((5 ≤ bits ∧ bits ≤ 9) ∧ 1 ≤ space ∧ space ≤ 64) ∧ ∃ b c, v = .tuple #[.pointer (some ⟨b, 0, none⟩), .int .i64 0] ∧ Sat S w' (isTail b c ⟨bits, space, 0, 1⟩ :: G))) := by
  refine ret_of is_tail_New rfl ?_
  repeat' (first | refine stPs ?_ | (refine p_cmp rfl rfl rfl rfl (fun hc => ?_) (fun hc => ?_) <;> simp only [cmpProp] at hc) | fail)
  refine p_call rfl rfl (place_May_spec bits h) ?_
  rintro _ w ⟨⟨rfl, hp⟩ | ⟨rfl, hp⟩, h⟩
  · by_cases hq : 1 ≤ space ∧ space ≤ 64
    · repeat' (first | refine stPs ?_ | (refine p_cmp rfl rfl rfl rfl (fun hc => ?_) (fun hc => ?_) <;> simp only [cmpProp] at hc) | fail)
      refine p_call rfl rfl (cell_New_spec 1 h) ?_
      rintro _ w (⟨hx, _⟩ | ⟨_, _, c, rfl, h⟩)
      · exact absurd ⟨by decide, by decide⟩ hx
      repeat' (first | refine stPs ?_ | (refine p_cmp rfl rfl rfl rfl (fun hc => ?_) (fun hc => ?_) <;> simp only [cmpProp] at hc) | fail)
      refine p_do rfl (d_box rfl h) ?_
      rintro _ w ⟨b, rfl, h⟩
      have hb : tailB ⟨bits, space, 0, 0⟩ := ⟨hp, by simp only; omega, by simp only; omega, by simp only; omega, by simp only; omega, by simp only; omega, by have := size_cases bits; simp only; omega⟩
      have h := isTail_shut (b := b) (c := c) (t := ⟨bits, space, 0, 0⟩) h rfl hb
      repeat' (first | refine stPs ?_ | (refine p_cmp rfl rfl rfl rfl (fun hc => ?_) (fun hc => ?_) <;> simp only [cmpProp] at hc) | fail)
      refine p_call rfl rfl (tail_Tail_Begin_spec 0 h) ?_
      have e : beginT ⟨bits, space, 0, 0⟩ 0 = (0, ⟨bits, space, 0, 1⟩) := by rw [beginT, if_neg (by simp only; omega)]; rfl
      rw [e]
      rintro _ w ⟨rfl, h⟩
      repeat' (first | refine stPs ?_ | (refine p_cmp rfl rfl rfl rfl (fun hc => ?_) (fun hc => ?_) <;> simp only [cmpProp] at hc) | fail)
      exact x_ret' is_tail_New rfl (.inr ⟨⟨hp, hq⟩, b, c, rfl, h⟩)
    · repeat' (first | refine stPs ?_ | (refine p_cmp rfl rfl rfl rfl (fun hc => ?_) (fun hc => ?_) <;> simp only [cmpProp] at hc) | fail)
      all_goals first | (exfalso; omega) | exact x_ret' is_tail_New rfl (.inl ⟨fun hx => hq hx.2, rfl, h⟩)
  · repeat' (first | refine stPs ?_ | (refine p_cmp rfl rfl rfl rfl (fun hc => ?_) (fun hc => ?_) <;> simp only [cmpProp] at hc) | fail)
    all_goals first | (exfalso; omega) | exact x_ret' is_tail_New rfl (.inl ⟨fun hx => hp hx.1, rfl, h⟩)

end
end Go.Proofs.YtflbfdmmfoigaaaGreat
