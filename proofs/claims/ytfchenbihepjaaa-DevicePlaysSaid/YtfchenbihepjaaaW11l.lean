/- Layer 11 (device): the law DeviceLasts. -/
import Derived.Test.YtfchenbihepjaaaHxS
import Derived.Test.YtfchenbihepjaaaL11
import Derived.Test.YtfchenbihepjaaaW11
namespace Go.Proofs.Ytfchenbihepjaaa
open Go Go.HX
attribute [local irreducible] Ret XRun XOps XDr XOne Does Gives
set_option maxRecDepth 4000
set_option maxHeartbeats 1000000
theorem stC0_W11l {goal next : Prop} (k : next) (hs : Hid next → goal := by (intro k; (first | (refine gC F.law11_awake ?_; refine p_call rfl rfl (law11_awake_spec h) ?_) | (refine gC F.device_Device_Write ?_; refine p_call rfl rfl (device_Device_Write_spec _ _ _ _ ?_ (h.rf4)) ?_; iterate 1 (first | assumption | omega | (simp only []; omega) | decide)) | (refine gC F.device_Device_Write ?_; refine p_call rfl rfl (device_Device_Write_nil _ _ _ h) ?_) | (refine gC F.device_Device_Read ?_; refine p_call rfl rfl (device_Device_Read_spec _ _ _ ?_ (h.rf4)) ?_; iterate 1 (first | assumption | omega | (simp only []; omega) | decide)) | (refine gC F.device_Device_Read ?_; refine p_call rfl rfl (device_Device_Read_nil _ _ h) ?_) | (refine gC F.device_Device_Do ?_; refine p_call rfl rfl (device_Device_Do_spec _ _ (h.rf4)) ?_) | (refine gC F.device_Device_Do ?_; refine p_call rfl rfl (device_Device_Do_nil _ h) ?_) | (refine gC F.device_Device_Take ?_; refine p_call rfl rfl (device_Device_Take_spec _ _ (h.rf4)) ?_) | (refine gC F.device_Device_Take ?_; refine p_call rfl rfl (device_Device_Take_nil _ h) ?_) | (refine gC F.device_Device_Crash ?_; refine p_call rfl rfl (device_Device_Crash_nil _ _ h) ?_) | (refine gC F.device_Device_Peek ?_; refine p_call rfl rfl (device_Device_Peek_spec _ _ _ (h.rf4)) ?_) | (refine gC F.device_Device_Peek ?_; refine p_call rfl rfl (device_Device_Peek_nil _ _ h) ?_) | (refine gC F.device_Device_Start ?_; refine p_call rfl rfl (device_Device_Start_spec _ (h.rf4)) ?_) | (refine gC F.device_Device_Start ?_; refine p_call rfl rfl (device_Device_Start_nil h) ?_) | (refine gS ?_; (first | refine p_do rfl (d_stwL rfl rfl rfl rfl rfl (h.pick (by repeat first | exact .here | apply Has.there)) (by first | (dsimp only [Value.cells]; done) | exact rfl)) ?_ | refine p_do rfl (d_stL rfl rfl rfl (h.pick (by repeat first | exact .here | apply Has.there)) (by first | exact of_decide_eq_true rfl | simp) (by first | (dsimp only [List.set]; done) | exact rfl)) ?_)) | fail); exact k.out)) : goal := hs ⟨k⟩
theorem stC1_W11l {goal next : Prop} (k : next) (hs : Hid next → goal := by (intro k; (first | (refine gC F.device_New ?_; refine p_call rfl rfl (device_New_spec h) ?_) | fail); exact k.out)) : goal := hs ⟨k⟩
theorem stC2_W11l {goal next : Prop} (k : next) (hs : Hid next → goal := by (intro k; (first | (refine gC F.law11_between ?_; refine p_call rfl rfl (law11_between_spec _ _ _ ?_ ?_ h) ?_; iterate 2 (first | assumption | omega | (simp only []; omega) | decide)) | fail); exact k.out)) : goal := hs ⟨k⟩
theorem stC3_W11l {goal next : Prop} (k : next) (hs : Hid next → goal := by (intro k; (first | (refine gBx ?_; refine p_do rfl (d_boxL rfl h (by first | (dsimp only [Value.cells]; done) | exact rfl)) ?_) | (refine gN ?_; refine p_do rfl (d_newL h (by first | (dsimp only [Value.cells]; done) | exact rfl)) ?_) | fail); exact k.out)) : goal := hs ⟨k⟩
theorem act11C_len (a : Act11) : (act11C a).length = 6 := rfl
/-- What is asked of a call that is played. -/
structure Act11In (W : World) (a : Act11) : Prop where
  ps : ∀ z ∈ a.picks, -9223372036854775808 ≤ z ∧ z ≤ 9223372036854775807
  rd : RdS W 1 (.slice a.pa a.pl a.pc) (ints .i64 a.picks)
theorem flat_intsI : ∀ l : List Int, (l.map fun n : Int => [Value.int .i64 n]).flatten = ints .i64 l
  | [] => rfl
  | a :: l => by rw [List.map_cons, List.flatten_cons, flat_intsI l]; rfl
theorem els_intsI {W : World} {els : List (List Value)} (h : ∀ c ∈ els, Arg W (.int .i64) c) : ∃ l : List Int, els.flatten = ints .i64 l ∧ ∀ z ∈ l, -9223372036854775808 ≤ z ∧ z ≤ 9223372036854775807 := by
  obtain ⟨l, rfl, _, hl⟩ := list_of (f := fun n : Int => [Value.int .i64 n]) (p := fun n => -9223372036854775808 ≤ n ∧ n ≤ 9223372036854775807) (fun c hc => by
    obtain ⟨n, e, hw⟩ := h c hc
    exact ⟨n, e, wf_i64 hw⟩)
  exact ⟨l, flat_intsI l, hl⟩
theorem arg_act11 {W : World} {cs : List Value} (h : Arg W act11Ty cs) : ∃ a : Act11, cs = act11C a ∧ Act11In W a := by
  obtain ⟨_, _, rfl, ⟨k, rfl, _⟩, _, _, rfl, ⟨_, _, rfl, ⟨ba, rfl, _⟩, _, _, rfl, ⟨bn, rfl, _⟩, hu⟩, _, _, rfl, ⟨s, rfl, _⟩, _, _, rfl, ⟨n, rfl, _⟩, _, _, rfl, ⟨pa, pl, pc, els, rfl, _, _, hr, hall⟩, h⟩ := h
  obtain rfl : _ = [] := h
  obtain rfl : _ = [] := hu
  obtain ⟨l, e, hl⟩ := els_intsI hall
  rw [e] at hr
  exact ⟨⟨k, ba, bn, s, n, pa, pl, pc, l⟩, rfl, hl, hr⟩
section
variable {S : SP} {w : World} {G : List HProp}
theorem law11_between_spec (s was next : ByteArray) (hw : was.size ≤ 1000000) (hn : next.size ≤ 1000000) (h : Sat S w G) : Ret Try.prog F.law11_between #[.string s, .string was, .string next] w (fun v w' => BoolIs v (betw s was next) ∧ Sat S w' G) := by
  refine ret_of is_law11_between rfl ?_
  repeat' (first | refine stPs ?_ | (refine p_cmp rfl rfl rfl rfl (fun hc => ?_) (fun hc => ?_) <;> simp only [cmpProp] at hc) | (refine r_cmp rfl rfl rfl rfl rfl (fun hc => ?_) (fun hc => ?_) <;> simp only [cmpProp] at hc) | (refine x_drawn rfl ?_; have h := h.drew) | refine x_drawn rfl ?_ | fail)
  refine x_keep [0, 1, 2, 7] rfl ?_
  refine x_loop_inv (fun lm le w => ∃ (n : Nat), lm = next.size + 1 - n ∧ n ≤ next.size + 1 ∧ (∀ m, m < n → ¬ s = next.extract 0 m ++ was.extract (min m was.size) was.size) ∧ le = [(0, .string s), (1, .string was), (2, .string next), (7, .int .i64 n)] ∧ Sat S w (G)) (next.size + 1) ⟨0, rfl, by omega, fun m hm => by omega, rfl, h⟩ ?_
  clear h
  rintro lm le w ⟨n, rfl, hi0, hi1, rfl, h⟩ ih
  by_cases hi : n ≤ next.size
  · have hm : ((min n was.size : Nat) : Int) = min (n : Int) (was.size : Int) := by omega
    have hsz : (next.extract 0 n).size + (was.extract (min n was.size) was.size).size ≤ 9223372036854775807 := by
      rw [ByteArray.size_extract, ByteArray.size_extract]
      omega
    by_cases he : s = next.extract 0 n ++ was.extract (min n was.size) was.size
    · repeat' (first | (refine r_pure (d := some 17) rfl rfl rfl (fun _ => g_sls (l' := 0) (h' := n) rfl rfl rfl rfl rfl (by omega) hi) ?_) | (refine r_pure (d := some 22) rfl rfl rfl (fun _ => g_min2 rfl rfl) ?_) | (refine r_pure (d := some 23) rfl rfl rfl (fun _ => g_sls (l' := min n was.size) (h' := was.size) rfl rfl rfl hm rfl (by omega) (by omega)) ?_) | (refine r_pure (d := some 24) rfl rfl rfl (fun _ => g_sadd rfl rfl hsz) ?_) | (refine r_pure (d := some 25) rfl rfl rfl (fun _ => g_seq rfl rfl) ?_; rw [decide_eq_true he]) | refine stP ?_ | (refine p_cmp rfl rfl rfl rfl (fun hc => ?_) (fun hc => ?_) <;> simp only [cmpProp] at hc) | (refine r_cmp rfl rfl rfl rfl rfl (fun hc => ?_) (fun hc => ?_) <;> simp only [cmpProp] at hc) | (refine x_drawn rfl ?_; have h := h.drew) | refine x_drawn rfl ?_ | fail)
      exact x_ret' is_law11_between rfl ⟨.t (.inl ⟨n, hi, he⟩), h⟩
    · repeat' (first | (refine r_pure (d := some 17) rfl rfl rfl (fun _ => g_sls (l' := 0) (h' := n) rfl rfl rfl rfl rfl (by omega) hi) ?_) | (refine r_pure (d := some 22) rfl rfl rfl (fun _ => g_min2 rfl rfl) ?_) | (refine r_pure (d := some 23) rfl rfl rfl (fun _ => g_sls (l' := min n was.size) (h' := was.size) rfl rfl rfl hm rfl (by omega) (by omega)) ?_) | (refine r_pure (d := some 24) rfl rfl rfl (fun _ => g_sadd rfl rfl hsz) ?_) | (refine r_pure (d := some 25) rfl rfl rfl (fun _ => g_seq rfl rfl) ?_; rw [decide_eq_false he]) | refine stP ?_ | (refine p_cmp rfl rfl rfl rfl (fun hc => ?_) (fun hc => ?_) <;> simp only [cmpProp] at hc) | (refine r_cmp rfl rfl rfl rfl rfl (fun hc => ?_) (fun hc => ?_) <;> simp only [cmpProp] at hc) | (refine x_drawn rfl ?_; have h := h.drew) | refine x_drawn rfl ?_ | fail)
      exact x_keep [0, 1, 2, 7] rfl (ih _ _ _ (by omega) ⟨n + 1, rfl, by omega, fun m hm => by
        rcases Nat.lt_or_ge m n with hmn | hmn
        · exact hi1 m hmn
        · obtain rfl : m = n := by omega
          exact he, rfl, h⟩)
  · have hno : ¬ ∃ m : Nat, m ≤ next.size ∧ s = next.extract 0 m ++ was.extract (min m was.size) was.size := fun ⟨m, hm, e⟩ => hi1 m (by omega) e
    by_cases he : s = next
    · repeat' (first | (refine p_val (dst := some 28) rfl (g_seq rfl rfl) ?_; rw [decide_eq_true he]) | refine stP ?_ | (refine p_cmp rfl rfl rfl rfl (fun hc => ?_) (fun hc => ?_) <;> simp only [cmpProp] at hc) | (refine r_cmp rfl rfl rfl rfl rfl (fun hc => ?_) (fun hc => ?_) <;> simp only [cmpProp] at hc) | (refine x_drawn rfl ?_; have h := h.drew) | refine x_drawn rfl ?_ | fail)
      exact x_ret' is_law11_between rfl ⟨.t (.inr he), h⟩
    · repeat' (first | (refine p_val (dst := some 28) rfl (g_seq rfl rfl) ?_; rw [decide_eq_false he]) | refine stP ?_ | (refine p_cmp rfl rfl rfl rfl (fun hc => ?_) (fun hc => ?_) <;> simp only [cmpProp] at hc) | (refine r_cmp rfl rfl rfl rfl rfl (fun hc => ?_) (fun hc => ?_) <;> simp only [cmpProp] at hc) | (refine x_drawn rfl ?_; have h := h.drew) | refine x_drawn rfl ?_ | fail)
      exact x_ret' is_law11_between rfl ⟨.f (fun hx => hx.elim hno he), h⟩
-- MACRO ACT() = .cells #[.int .i64 kd, .int .i64 ca, .int .i64 cn, .string s, .int .i64 n, .slice qa ql qc]
set_option maxHeartbeats 32000000 in
theorem law11_DeviceLasts_spec {v1 : Value} (ba bn : Int) (al : List Act11) (W0 : World) (hl : ∀ a ∈ al, Act11In W0 a) (hS : S = ⟨W0.heap.size, W0⟩) (hA : Old S 6 v1 (rows act11C al)) (h : Sat S w G) :
    Ret Try.prog F.law11_DeviceLasts #[v1, .agg #[.int .i64 ba, .int .i64 bn]] w (fun v w' => v = .bool true ∧ Sat S w' []) := by
  obtain ⟨va, vl, vc, rfl, _⟩ := hA _ w h
  have hvl := (hA _ w h).rlen act11C_len (by decide)
  refine ret_of is_law11_DeviceLasts rfl ?_
  repeat' (first | refine stPs ?_ | (refine stC0_W11l ?_; rintro _ w ⟨rfl, h⟩) | (refine stC1_W11l ?_; rintro _ w ⟨d, bb, jb, ab, rfl, h⟩) | (refine stC2_W11l ?_; rintro _ w ⟨(⟨rfl, hb⟩ | ⟨rfl, hb⟩), h⟩) | (refine stC3_W11l ?_; rintro _ w ⟨bx, rfl, h⟩) | (refine p_cmp rfl rfl rfl rfl (fun hc => ?_) (fun hc => ?_) <;> simp only [cmpProp] at hc) | refine p_eqa rfl rfl rfl rfl rfl rfl (fun hc => ?_) (fun hc => ?_) | fail)
  revert h
  revert bx
  intro bq
  intros
  rename_i h
  refine x_keep [0, 3, 5, 6, 7, 8, 9] rfl ?_
  refine x_loop_inv (fun lm le w => ∃ (i : Nat), ∃ (x : DevM), ∃ (was next : ByteArray), ∃ (tk : Int), lm = vl - i ∧ i ≤ vl ∧ i ≤ 120 ∧ LOk (ba, bn) x was tk next i ∧ le = [(0, .slice va vl vc), (3, .pointer (some ⟨bq, 0, none⟩)), (5, .pointer (some ⟨d, 0, none⟩)), (6, .string was), (7, .int .i64 tk), (8, .string next), (9, .int .i64 i)] ∧ Sat S w (pt d (.cells #[.bool (x).off, .map (some bb), .map (some jb), .map (some ab), .int .i64 (x).last] T.device_Device (0, 0)) :: isMap encB bb (bkv (x).blks) :: isMap encI jb (jkv (x).jobs) :: isMap encI ab (akv (x).anss) :: pt bq (.cells #[.int .i64 ba, .int .i64 bn] T.api_Block (0, 0)) :: G)) (vl) ⟨0, ⟨false, [], [], [], 0⟩, ⟨#[]⟩, ⟨#[]⟩, 0, rfl, by omega, by omega, LOk.start, rfl, h.pm5⟩ ?_
  clear h
  rintro lm le w ⟨i, x, was, next, tk, rfl, hi0, hi1, hi2, rfl, h⟩ ih
  have hdv := hi2.dev (by omega)
  by_cases hi : i < vl ∧ i < 120
  · obtain ⟨hi, h120⟩ := hi
    obtain ⟨a, ha⟩ := has_elem (show i < al.length by omega)
    obtain ⟨hps, hrd⟩ := hl a (List.mem_of_getElem? ha)
    obtain ⟨pa, po, rfl⟩ := (hA _ w h).addr (by omega)
    have hL : Old S 1 (.slice a.pa a.pl a.pc) (ints .i64 a.picks) := fun G w h => by subst hS; exact hrd.later h
    obtain ⟨kd, ca, cn, s, n, qa, ql, qc, ps⟩ := a
    dsimp only at hps hL
    by_cases hs : 2000 < s.size
    · repeat' (first | (refine gL ?_; refine p_val (dst := some 33) rfl (g_ldE (i := i) act11C_len rfl (hA _ _ h) ha (by omega)) ?_) | refine stP ?_ | (refine stC0_W11l ?_; rintro _ w ⟨rfl, h⟩) | (refine stC1_W11l ?_; rintro _ w ⟨d, bb, jb, ab, rfl, h⟩) | (refine stC2_W11l ?_; rintro _ w ⟨(⟨rfl, hb⟩ | ⟨rfl, hb⟩), h⟩) | (refine stC3_W11l ?_; rintro _ w ⟨bx, rfl, h⟩) | (refine p_cmp rfl rfl rfl rfl (fun hc => ?_) (fun hc => ?_) <;> simp only [cmpProp] at hc) | refine p_eqa rfl rfl rfl rfl rfl rfl (fun hc => ?_) (fun hc => ?_) | fail)
      exact x_keep [0, 3, 5, 6, 7, 8, 9] rfl (ih _ _ _ (by omega) ⟨i + 1, x, was, next, tk, rfl, by omega, by omega, hi2.later, rfl, h.pm5⟩)
    · repeat' (first | (refine gL ?_; refine p_val (dst := some 33) rfl (g_ldE (i := i) act11C_len rfl (hA _ _ h) ha (by omega)) ?_) | (refine gB .eql ?_; refine p_val (dst := some 41) rfl (g_cmp rfl rfl rfl) ?_) | refine stP ?_ | (refine stC0_W11l ?_; rintro _ w ⟨rfl, h⟩) | (refine stC1_W11l ?_; rintro _ w ⟨d, bb, jb, ab, rfl, h⟩) | (refine stC2_W11l ?_; rintro _ w ⟨(⟨rfl, hb⟩ | ⟨rfl, hb⟩), h⟩) | (refine stC3_W11l ?_; rintro _ w ⟨bx, rfl, h⟩) | (refine p_cmp rfl rfl rfl rfl (fun hc => ?_) (fun hc => ?_) <;> simp only [cmpProp] at hc) | refine p_eqa rfl rfl rfl rfl rfl rfl (fun hc => ?_) (fun hc => ?_) | fail)
      generalize hd : decide (cmpProp .eql kd 1) = dd
      refine x_cutb (fun le w => ∃ (x : DevM), ∃ (was next : ByteArray), ∃ (tk : Int), LOk (ba, bn) x was tk next (i + 1) ∧ le = [(0, .slice (some ⟨pa, po, none⟩) vl vc), (3, .pointer (some ⟨bq, 0, none⟩)), (5, .pointer (some ⟨d, 0, none⟩)), (6, .string was), (7, .int .i64 tk), (8, .string next), (9, .int .i64 i)] ∧ Sat S w (pt d (.cells #[.bool (x).off, .map (some bb), .map (some jb), .map (some ab), .int .i64 (x).last] T.device_Device (0, 0)) :: isMap encB bb (bkv (x).blks) :: isMap encI jb (jkv (x).jobs) :: isMap encI ab (akv (x).anss) :: pt bq (.cells #[.int .i64 ba, .int .i64 bn] T.api_Block (0, 0)) :: G)) (fun kj jn => ?_) ?_
      rotate_left
      · clear h
        rintro le w ⟨x, was, next, tk, hi0, rfl, h⟩
        have hw : (getL (ba, bn) x.blks).getD ⟨#[]⟩ = was := hi0.was
        repeat' (first | (refine gC F.device_Device_Peek ?_; refine p_call rfl rfl (device_Device_Peek_spec x ba bn (h.rf4)) ?_; rw [hw]; rintro _ w ⟨rfl, h⟩) | (refine p_val (dst := some 132) rfl (g_sne rfl rfl) ?_; rw [decide_eq_true rfl]) | refine stP ?_ | (refine stC0_W11l ?_; rintro _ w ⟨rfl, h⟩) | (refine stC1_W11l ?_; rintro _ w ⟨d, bb, jb, ab, rfl, h⟩) | (refine stC2_W11l ?_; rintro _ w ⟨(⟨rfl, hb⟩ | ⟨rfl, hb⟩), h⟩) | (refine stC3_W11l ?_; rintro _ w ⟨bx, rfl, h⟩) | (refine p_cmp rfl rfl rfl rfl (fun hc => ?_) (fun hc => ?_) <;> simp only [cmpProp] at hc) | refine p_eqa rfl rfl rfl rfl rfl rfl (fun hc => ?_) (fun hc => ?_) | fail)
        exact x_keep [0, 3, 5, 6, 7, 8, 9] rfl (ih _ _ _ (by omega) ⟨i + 1, x, was, next, tk, rfl, by omega, by omega, hi0, rfl, h.pm5⟩)
      · by_cases k1 : kd = 1
        · subst k1
          obtain rfl : dd = true := by rw [← hd]; rfl
          have hn := hi2.write ca cn s
          generalize hr : askR x ⟨ca, cn, true, s⟩ = r at hn
          obtain ⟨⟨tn, er⟩, x'⟩ := r
          dsimp only at hn
          repeat' (first | (refine gC F.device_Device_Write ?_; refine p_call rfl rfl (device_Device_Write_spec x ca cn s hdv (h.rf4)) ?_; rw [hr]; rintro _ w ⟨rfl, h⟩) | (refine p_val rfl (g_ldq (vs := [.int .i64 ca, .int .i64 cn]) rfl (h.at (by repeat first | exact .here | apply Has.there)) rfl rfl) ?_) | refine stP ?_ | (refine stC0_W11l ?_; rintro _ w ⟨rfl, h⟩) | (refine stC1_W11l ?_; rintro _ w ⟨d, bb, jb, ab, rfl, h⟩) | (refine stC2_W11l ?_; rintro _ w ⟨(⟨rfl, hb⟩ | ⟨rfl, hb⟩), h⟩) | (refine stC3_W11l ?_; rintro _ w ⟨bx, rfl, h⟩) | (refine p_cmp rfl rfl rfl rfl (fun hc => ?_) (fun hc => ?_) <;> simp only [cmpProp] at hc) | refine p_eqa rfl rfl rfl rfl rfl rfl (fun hc => ?_) (fun hc => ?_) | fail)
          · rw [if_pos ⟨by assumption, by rw [hc.1, hc.2.1]⟩, if_pos ⟨by assumption, by rw [hc.1, hc.2.1]⟩] at hn
            exact x_keep [0, 3, 5, 6, 7, 8, 9] rfl (jn _ _ ⟨x', was, s, tn, hn, rfl, h.pm5⟩)
          · rw [if_neg (fun hx => hc ⟨(Prod.mk.inj hx.2).1, (Prod.mk.inj hx.2).2, trivial⟩), if_neg (fun hx => hc ⟨(Prod.mk.inj hx.2).1, (Prod.mk.inj hx.2).2, trivial⟩)] at hn
            exact x_keep [0, 3, 5, 6, 7, 8, 9] rfl (jn _ _ ⟨x', was, next, tk, hn, rfl, h.pm5⟩)
          · rw [if_neg (fun hx => hc hx.1), if_neg (fun hx => hc hx.1)] at hn
            exact x_keep [0, 3, 5, 6, 7, 8, 9] rfl (jn _ _ ⟨x', was, next, tk, hn, rfl, h.pm5⟩)
        by_cases k2 : kd = 2
        · subst k2
          obtain rfl : dd = false := by rw [← hd]; rfl
          repeat' (first | (refine gC F.device_Device_Read ?_; refine p_call rfl rfl (device_Device_Read_spec x ca cn hdv (h.rf4)) ?_; rintro _ w ⟨rfl, h⟩) | (refine p_val rfl (g_ldq (vs := [.int .i64 ca, .int .i64 cn]) rfl (h.at (by repeat first | exact .here | apply Has.there)) rfl rfl) ?_) | refine stP ?_ | (refine stC0_W11l ?_; rintro _ w ⟨rfl, h⟩) | (refine stC1_W11l ?_; rintro _ w ⟨d, bb, jb, ab, rfl, h⟩) | (refine stC2_W11l ?_; rintro _ w ⟨(⟨rfl, hb⟩ | ⟨rfl, hb⟩), h⟩) | (refine stC3_W11l ?_; rintro _ w ⟨bx, rfl, h⟩) | (refine p_cmp rfl rfl rfl rfl (fun hc => ?_) (fun hc => ?_) <;> simp only [cmpProp] at hc) | refine p_eqa rfl rfl rfl rfl rfl rfl (fun hc => ?_) (fun hc => ?_) | fail)
          exact x_keep [0, 3, 5, 6, 7, 8, 9] rfl (jn _ _ ⟨_, was, next, tk, hi2.read ca cn, rfl, h.pm5⟩)
        by_cases k3 : kd = 3
        · subst k3
          obtain rfl : dd = false := by rw [← hd]; rfl
          have hn := hi2.doit n
          generalize hr : doR x n = r at hn
          obtain ⟨er, x'⟩ := r
          dsimp only at hn
          repeat' (first | (refine gC F.device_Device_Do ?_; refine p_call rfl rfl (device_Device_Do_spec x n (h.rf4)) ?_; rw [hr]; rintro _ w ⟨rfl, h⟩) | refine stP ?_ | (refine stC0_W11l ?_; rintro _ w ⟨rfl, h⟩) | (refine stC1_W11l ?_; rintro _ w ⟨d, bb, jb, ab, rfl, h⟩) | (refine stC2_W11l ?_; rintro _ w ⟨(⟨rfl, hb⟩ | ⟨rfl, hb⟩), h⟩) | (refine stC3_W11l ?_; rintro _ w ⟨bx, rfl, h⟩) | (refine p_cmp rfl rfl rfl rfl (fun hc => ?_) (fun hc => ?_) <;> simp only [cmpProp] at hc) | refine p_eqa rfl rfl rfl rfl rfl rfl (fun hc => ?_) (fun hc => ?_) | fail)
          all_goals first | (rw [if_pos (by omega), if_pos (by omega)] at hn; exact x_keep [0, 3, 5, 6, 7, 8, 9] rfl (jn _ _ ⟨x', next, next, 0, hn, rfl, h.pm5⟩)) | (rw [if_neg (by omega), if_neg (by omega)] at hn; exact x_keep [0, 3, 5, 6, 7, 8, 9] rfl (jn _ _ ⟨x', was, next, tk, hn, rfl, h.pm5⟩))
        by_cases k4 : kd = 4
        · subst k4
          obtain rfl : dd = false := by rw [← hd]; rfl
          repeat' (first | (refine gC F.device_Device_Take ?_; refine p_call rfl rfl (device_Device_Take_spec x n (h.rf4)) ?_; rintro _ w ⟨rfl, h⟩) | refine stP ?_ | (refine stC0_W11l ?_; rintro _ w ⟨rfl, h⟩) | (refine stC1_W11l ?_; rintro _ w ⟨d, bb, jb, ab, rfl, h⟩) | (refine stC2_W11l ?_; rintro _ w ⟨(⟨rfl, hb⟩ | ⟨rfl, hb⟩), h⟩) | (refine stC3_W11l ?_; rintro _ w ⟨bx, rfl, h⟩) | (refine p_cmp rfl rfl rfl rfl (fun hc => ?_) (fun hc => ?_) <;> simp only [cmpProp] at hc) | refine p_eqa rfl rfl rfl rfl rfl rfl (fun hc => ?_) (fun hc => ?_) | fail)
          exact x_keep [0, 3, 5, 6, 7, 8, 9] rfl (jn _ _ ⟨_, was, next, tk, hi2.take n, rfl, h.pm5⟩)
        by_cases k5 : kd = 5
        · subst k5
          obtain rfl : dd = false := by rw [← hd]; rfl
          have hwz : was.size ≤ 1000000 := by
            have hw := hi2.was
            unfold blkOf at hw
            cases hg : getL (ba, bn) x.blks with
            | none =>
              rw [hg] at hw
              rw [← hw]
              exact Nat.zero_le _
            | some u =>
              rw [hg] at hw
              have h1 := hi2.szb _ (getL_mem hg)
              have h1 : u.size ≤ 131072 := h1
              rw [← hw]
              show u.size ≤ 1000000
              omega
          have hnz : next.size ≤ 1000000 := Nat.le_trans hi2.nsz (by decide)
          repeat' (first | (refine gC F.device_Device_Crash ?_; refine p_call rfl rfl (device_Device_Crash_spec x ps hdv hi2.szb hi2.szj (fun z hz => (hps z hz).2) (fun w h => hL _ _ h) (h.rf4)) ?_; rintro _ w (⟨hoff, rfl, h⟩ | ⟨hoff, rfl, m, hm, hsd, h⟩)) | (refine gC F.device_Device_Peek ?_; obtain ⟨hn, hb⟩ := hi2.crash (picks := ps) hm; refine p_call (dst := some 102) rfl rfl (device_Device_Peek_spec (⟨true, crashGo x.jobs m ps x.blks, [], [], x.last⟩ : DevM) ba bn (h.rf4)) ?_; dsimp only; generalize hu : blkOf (ba, bn) (crashGo x.jobs m ps x.blks) = u at hn hb; rw [show (getL (ba, bn) (crashGo x.jobs m ps x.blks)).getD ⟨#[]⟩ = u from hu]; rintro _ w ⟨rfl, h⟩) | (refine p_val (dst := some 107) rfl (g_sne rfl rfl) ?_; by_cases e : u = was; rw [decide_eq_true e]; rotate_left; rw [decide_eq_false e]) | (refine gC F.law11_between ?_; refine p_call rfl rfl (law11_between_spec u was next hwz hnz h) ?_; rintro _ w ⟨(⟨rfl, hb2⟩ | ⟨rfl, hb2⟩), h⟩; rotate_left; exact absurd (hb.resolve_left e).2 hb2) | refine stP ?_ | (refine stC0_W11l ?_; rintro _ w ⟨rfl, h⟩) | (refine stC1_W11l ?_; rintro _ w ⟨d, bb, jb, ab, rfl, h⟩) | (refine stC2_W11l ?_; rintro _ w ⟨(⟨rfl, hb⟩ | ⟨rfl, hb⟩), h⟩) | (refine stC3_W11l ?_; rintro _ w ⟨bx, rfl, h⟩) | (refine p_cmp rfl rfl rfl rfl (fun hc => ?_) (fun hc => ?_) <;> simp only [cmpProp] at hc) | refine p_eqa rfl rfl rfl rfl rfl rfl (fun hc => ?_) (fun hc => ?_) | fail)
          · exact x_keep [0, 3, 5, 6, 7, 8, 9] rfl (jn _ _ ⟨x, was, next, tk, hi2.later, rfl, h.pm5⟩)
          · exact absurd hc (hb.resolve_left e).1
          · exact x_keep [0, 3, 5, 6, 7, 8, 9] rfl (jn _ _ ⟨⟨true, crashGo x.jobs m ps x.blks, [], [], x.last⟩, u, next, 0, hn, rfl, h.pm5⟩)
          · exact x_keep [0, 3, 5, 6, 7, 8, 9] rfl (jn _ _ ⟨⟨true, crashGo x.jobs m ps x.blks, [], [], x.last⟩, u, next, 0, hn, rfl, h.pm5⟩)
        by_cases k6 : kd = 6
        · subst k6
          obtain rfl : dd = false := by rw [← hd]; rfl
          repeat' (first | (refine gC F.device_Device_Start ?_; refine p_call rfl rfl (device_Device_Start_spec x (h.rf4)) ?_; rintro _ w ⟨rfl, h⟩) | refine stP ?_ | (refine stC0_W11l ?_; rintro _ w ⟨rfl, h⟩) | (refine stC1_W11l ?_; rintro _ w ⟨d, bb, jb, ab, rfl, h⟩) | (refine stC2_W11l ?_; rintro _ w ⟨(⟨rfl, hb⟩ | ⟨rfl, hb⟩), h⟩) | (refine stC3_W11l ?_; rintro _ w ⟨bx, rfl, h⟩) | (refine p_cmp rfl rfl rfl rfl (fun hc => ?_) (fun hc => ?_) <;> simp only [cmpProp] at hc) | refine p_eqa rfl rfl rfl rfl rfl rfl (fun hc => ?_) (fun hc => ?_) | fail)
          exact x_keep [0, 3, 5, 6, 7, 8, 9] rfl (jn _ _ ⟨_, was, next, tk, hi2.on, rfl, h.pm5⟩)
        obtain rfl : dd = false := by rw [← hd]; exact decide_eq_false k1
        repeat' (first | contradiction | refine stP ?_ | (refine stC0_W11l ?_; rintro _ w ⟨rfl, h⟩) | (refine stC1_W11l ?_; rintro _ w ⟨d, bb, jb, ab, rfl, h⟩) | (refine stC2_W11l ?_; rintro _ w ⟨(⟨rfl, hb⟩ | ⟨rfl, hb⟩), h⟩) | (refine stC3_W11l ?_; rintro _ w ⟨bx, rfl, h⟩) | (refine p_cmp rfl rfl rfl rfl (fun hc => ?_) (fun hc => ?_) <;> simp only [cmpProp] at hc) | refine p_eqa rfl rfl rfl rfl rfl rfl (fun hc => ?_) (fun hc => ?_) | fail)
        exact x_keep [0, 3, 5, 6, 7, 8, 9] rfl (jn _ _ ⟨x, was, next, tk, hi2.later, rfl, h.pm5⟩)
  · repeat' (first | refine stPs ?_ | (refine stC0_W11l ?_; rintro _ w ⟨rfl, h⟩) | (refine stC1_W11l ?_; rintro _ w ⟨d, bb, jb, ab, rfl, h⟩) | (refine stC2_W11l ?_; rintro _ w ⟨(⟨rfl, hb⟩ | ⟨rfl, hb⟩), h⟩) | (refine stC3_W11l ?_; rintro _ w ⟨bx, rfl, h⟩) | (refine p_cmp rfl rfl rfl rfl (fun hc => ?_) (fun hc => ?_) <;> simp only [cmpProp] at hc) | refine p_eqa rfl rfl rfl rfl rfl rfl (fun hc => ?_) (fun hc => ?_) | fail)
    all_goals first | (exfalso; omega) | exact x_ret' is_law11_DeviceLasts rfl ⟨rfl, h.nil⟩
end
theorem DeviceLasts_law (a0 : Option Addr) (len0 cap0 : Nat) (cs1 : Array Value) (W : World) (w0 : Arg W (.sl act11Ty) [.slice a0 len0 cap0]) (w1 : Arg W (.st (.pair (.int .i64) (.pair (.int .i64) .unit))) cs1.toList) :
    Ret Try.prog F.law11_DeviceLasts #[.slice a0 len0 cap0, .agg cs1] W (fun v w' => v = .bool true ∧ Sat ⟨W.heap.size, W⟩ w' []) := by
  obtain ⟨a, len, cap, els, he, _, _, hr, hall⟩ := w0
  simp at he
  obtain ⟨rfl, rfl, rfl⟩ := he
  obtain ⟨l, rfl, _, hl⟩ := list_of (f := act11C) (p := Act11In W) (fun c hc => arg_act11 (hall c hc))
  obtain ⟨_, _, e, ⟨ba, rfl, _⟩, _, _, rfl, ⟨bn, rfl, _⟩, hu⟩ := w1
  obtain rfl : _ = [] := hu
  have hc : cs1 = #[.int .i64 ba, .int .i64 bn] := by
    apply Array.toList_inj.1
    rw [e]
    rfl
  rw [hc]
  exact law11_DeviceLasts_spec ba bn l W hl rfl (fun G w h => hr.later h) (Sat.begin W)
end Go.Proofs.Ytfchenbihepjaaa
