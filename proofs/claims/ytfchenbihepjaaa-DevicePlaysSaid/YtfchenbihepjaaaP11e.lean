/- Layer 11 (device): what the document says of asking and taking. -/
import Derived.Test.YtfchenbihepjaaaHxS
import Derived.Test.YtfchenbihepjaaaP11d
namespace Go.Proofs.Ytfchenbihepjaaa
open Go Go.HX
attribute [local irreducible] Ret XRun XOps XDr XOne Does Gives
set_option maxRecDepth 4000
set_option maxHeartbeats 1000000
theorem stC0_P11e {goal next : Prop} (k : next) (hs : Hid next → goal := by (intro k; (first | (refine gC F.ref11_May ?_; refine p_call rfl rfl (ref11_May_spec _ _ h) ?_) | (refine gC F.ref11_Device_At ?_; refine p_call rfl rfl (ref11_Device_At_spec _ _ _ ?_ ?_ (h.rf3)) ?_; iterate 2 (first | assumption | omega | (simp only []; omega) | decide)) | fail); exact k.out)) : goal := hs ⟨k⟩
theorem stC1_P11e {goal next : Prop} (k : next) (hs : Hid next → goal := by (intro k; (first | (refine gC F.ref11_Device_Flight ?_; refine p_call rfl rfl (ref11_Device_Flight_spec _ ?_ (h.rf3)) ?_; iterate 1 (first | assumption | omega | (simp only []; omega) | decide)) | fail); exact k.out)) : goal := hs ⟨k⟩
theorem stC2_P11e {goal next : Prop} (k : next) (hs : Hid next → goal := by (intro k; (first | (refine gBx ?_; refine p_do rfl (d_boxL rfl h (by first | (dsimp only [Value.cells]; done) | exact rfl)) ?_) | (refine gN ?_; refine p_do rfl (d_newL h (by first | (dsimp only [Value.cells]; done) | exact rfl)) ?_) | fail); exact k.out)) : goal := hs ⟨k⟩
theorem stD3_P11e {goal next : Prop} (k : next) (hs : Hid next → goal := by (intro k; (first | (refine gSR ?_; (first | refine r_do rfl rfl (d_stwL rfl rfl rfl rfl rfl (h.pick (by repeat first | exact .here | apply Has.there)) (by first | (dsimp only [Value.cells]; done) | exact rfl)) ?_ | refine r_do rfl rfl (d_stL rfl rfl rfl (h.pick (by repeat first | exact .here | apply Has.there)) (by first | exact of_decide_eq_true rfl | simp) (by first | (dsimp only [List.set]; done) | exact rfl)) ?_)) | fail); exact k.out)) : goal := hs ⟨k⟩
theorem stC4_P11e {goal next : Prop} (k : next) (hs : Hid next → goal := by (intro k; (first | (refine gS ?_; (first | refine p_do rfl (d_stwL rfl rfl rfl rfl rfl (h.pick (by repeat first | exact .here | apply Has.there)) (by first | (dsimp only [Value.cells]; done) | exact rfl)) ?_ | refine p_do rfl (d_stL rfl rfl rfl (h.pick (by repeat first | exact .here | apply Has.there)) (by first | exact of_decide_eq_true rfl | simp) (by first | (dsimp only [List.set]; done) | exact rfl)) ?_)) | fail); exact k.out)) : goal := hs ⟨k⟩
def busyJ (a n : Int) (j : JobD) : Prop := j.state = 0 ∧ j.wr = true ∧ j.area = a ∧ j.no = n
instance (a n : Int) (j : JobD) : Decidable (busyJ a n j) := by unfold busyJ; infer_instance
def askD (m : DocM) (a n : Int) (wr : Bool) (s : ByteArray) : (Int × Int) × DocM :=
  if m.off = true then ((0, 6), m)
  else if ¬ mayB a n then ((0, 1), m)
  else if 131072 < s.size then ((0, 5), m)
  else if wr = true ∧ ∃ j ∈ m.jobs, busyJ a n j then ((0, 10), m)
  else if 32 ≤ (flightGo 0 m.jobs).length then ((0, 9), m)
  else (((m.jobs.length : Int) + 1, 0), { m with jobs := m.jobs ++ [⟨a, n, wr, s, false, 0⟩] })
def jobAt (jobs : List JobD) (t : Int) : Option JobD := if 1 ≤ t then jobs[(t - 1).toNat]? else none
def takeD (m : DocM) (t : Int) : (ByteArray × Int) × DocM :=
  if m.off = true then ((⟨#[]⟩, 6), m) else match jobAt m.jobs t with
    | none => ((⟨#[]⟩, 7), m)
    | some j => if j.state = 0 then ((⟨#[]⟩, 10), m) else if j.state = 1 then
        ((if j.none = true then (⟨#[]⟩, 7) else (j.s, 0)), { m with jobs := m.jobs.set (t - 1).toNat { j with state := 2 } })
      else ((⟨#[]⟩, 7), m)
theorem at_iff {jobs : List JobD} {t st : Int} : atD jobs t st ↔ ∃ j, jobAt jobs t = some j ∧ j.state = st := by
  unfold atD jobAt
  constructor
  · rintro ⟨h1, j, h2, h3⟩
    exact ⟨j, by rw [if_pos h1]; exact h2, h3⟩
  · rintro ⟨j, h2, h3⟩
    by_cases h1 : 1 ≤ t
    · rw [if_pos h1] at h2
      exact ⟨h1, j, h2, h3⟩
    · rw [if_neg h1] at h2
      cases h2
section
variable {S : SP} {w : World} {G : List HProp}
-- MACRO FLD(qd, qf) = (refine r_own (dst := some qd) rfl rfl rfl h (fun w h => g_ldF (i := i) (f := qf) jobDC_len rfl (ownS_rd h (by repeat first | exact .here | apply Has.there)) hyi rfl (by omega)) ?_)
-- MACRO FLT() = (refine gC F.ref11_Device_Flight ?_; refine p_call rfl rfl (ref11_Device_Flight_spec ⟨false, items, jobs⟩ (by dsimp only; omega) (h.rf3)) ?_; rintro v w h; obtain ⟨fa, fl, fc, rfl, hfl, _⟩ := ownS_slice h .here; rw [ints_length, Nat.mul_one] at hfl; dsimp only at hfl h)
-- MACRO APPD() = (refine r_do rfl rfl (d_appR rfl rfl rfl (by decide) (h.pick (by repeat first | exact .here | apply Has.there)) (ownS_rd h .here) (jobDC_one _) (by rw [rows_length jobDC_len, jobDC_len]; omega) (by rw [rows_length jobDC_len, jobDC_len]; omega)) ?_; intro v8 w h; rw [← rows_one (enc := jobDC), ← rows_append] at h; obtain ⟨_, ll, _, rfl, hll, _⟩ := ownS_slice h .here; rw [rows_length jobDC_len, List.length_append, List.length_singleton] at hll; refine nowa ?_)
set_option maxHeartbeats 16000000 in
theorem ref11_Device_Ask_spec {mb : Nat} {iv jv : Value} (m : DocM) (a n : Int) (wr : Bool) (s : ByteArray) (hl : m.jobs.length ≤ 500) (h : Sat S w (pt mb (.cells #[.bool (m).off, iv, jv] T.haycroftref11_Device (0, 0)) :: ownS T.haycroftref11_Item 3 iv (rows itemC (m).items) :: ownS T.haycroftref11_Job 6 jv (rows jobDC (m).jobs) :: G)) :
    Ret Try.prog F.ref11_Device_Ask #[.pointer (some ⟨mb, 0, none⟩), .agg #[.int .i64 a, .int .i64 n], .bool wr, .string s] w (fun v w' => v = .tuple #[.int .i64 (askD m a n wr s).1.1, .int .i64 (askD m a n wr s).1.2] ∧ ∃ jv, Sat S w' (pt mb (.cells #[.bool ((askD m a n wr s).2).off, iv, jv] T.haycroftref11_Device (0, 0)) :: ownS T.haycroftref11_Item 3 iv (rows itemC ((askD m a n wr s).2).items) :: ownS T.haycroftref11_Job 6 jv (rows jobDC ((askD m a n wr s).2).jobs) :: G)) := by
  obtain ⟨off, items, jobs⟩ := m
  dsimp only at hl h
  obtain ⟨va, vl, vc, rfl, hvl, _⟩ := ownS_slice h (.there (.there .here))
  rw [rows_length jobDC_len] at hvl
  unfold askD
  refine ret_of is_ref11_Device_Ask rfl ?_
  cases off
  · dsimp only at h ⊢
    rw [if_neg (by simp)]
    by_cases hm : mayB a n
    · rw [if_neg (by simp [hm])]
      by_cases hs : 131072 < s.size
      · rw [if_pos hs]
        repeat' (first | contradiction | (refine p_val rfl (g_ldq (vs := [.int .i64 a, .int .i64 n]) rfl (h.at (by repeat first | exact .here | apply Has.there)) rfl rfl) ?_) | refine stP ?_ | (refine stC0_P11e ?_; rintro _ w ⟨(⟨rfl, hb⟩ | ⟨rfl, hb⟩), h⟩) | (refine stC1_P11e ?_; rintro v w h) | (refine stC2_P11e ?_; rintro _ w ⟨bx, rfl, h⟩) | (refine stD3_P11e ?_; rintro _ w ⟨rfl, h⟩ <;> refine nowa ?_) | (refine p_cmp rfl rfl rfl rfl (fun hc => ?_) (fun hc => ?_) <;> simp only [cmpProp] at hc) | refine p_eqa rfl rfl rfl rfl rfl rfl (fun hc => ?_) (fun hc => ?_) | (refine r_cmp rfl rfl rfl rfl rfl (fun hc => ?_) (fun hc => ?_) <;> simp only [cmpProp] at hc) | refine r_eqa rfl rfl rfl rfl rfl rfl rfl (fun hc => ?_) (fun hc => ?_) | (refine x_drawn rfl ?_; have h := h.drew) | refine x_drawn rfl ?_ | fail)
        exact x_ret' is_ref11_Device_Ask rfl ⟨rfl, _, h.pm3⟩
      · rw [if_neg hs]
        repeat' (first | contradiction | (refine p_val rfl (g_ldq (vs := [.int .i64 a, .int .i64 n]) rfl (h.at (by repeat first | exact .here | apply Has.there)) rfl rfl) ?_) | refine stP ?_ | (refine stC0_P11e ?_; rintro _ w ⟨(⟨rfl, hb⟩ | ⟨rfl, hb⟩), h⟩) | (refine stC1_P11e ?_; rintro v w h) | (refine stC2_P11e ?_; rintro _ w ⟨bx, rfl, h⟩) | (refine stD3_P11e ?_; rintro _ w ⟨rfl, h⟩ <;> refine nowa ?_) | (refine p_cmp rfl rfl rfl rfl (fun hc => ?_) (fun hc => ?_) <;> simp only [cmpProp] at hc) | refine p_eqa rfl rfl rfl rfl rfl rfl (fun hc => ?_) (fun hc => ?_) | (refine r_cmp rfl rfl rfl rfl rfl (fun hc => ?_) (fun hc => ?_) <;> simp only [cmpProp] at hc) | refine r_eqa rfl rfl rfl rfl rfl rfl rfl (fun hc => ?_) (fun hc => ?_) | (refine x_drawn rfl ?_; have h := h.drew) | refine x_drawn rfl ?_ | fail)
        obtain ⟨q, rfl⟩ : ∃ q, q = bx := ⟨bx, rfl⟩
        refine x_keep [0, 2, 3, 5, 10] rfl ?_
        refine x_loop_inv (fun lm le w => ∃ (i : Nat), lm = vl - i ∧ i ≤ vl ∧ (wr = true → ∀ k y, k < i → jobs[k]? = some y → ¬ busyJ a n y) ∧ le = [(0, .pointer (some ⟨mb, 0, none⟩)), (2, .bool wr), (3, .string s), (5, .pointer (some ⟨q, 0, none⟩)), (10, .int .i64 i)] ∧ Sat S w (pt q (.cells #[.int .i64 a, .int .i64 n] T.api_Block (0, 0)) :: pt mb (.cells #[.bool false, iv, .slice va vl vc] T.haycroftref11_Device (0, 0)) :: ownS T.haycroftref11_Item 3 iv (rows itemC items) :: ownS T.haycroftref11_Job 6 (.slice va vl vc) (rows jobDC jobs) :: G)) (vl) ⟨0, rfl, by omega, fun _ k y hk => by omega, rfl, h.pm4⟩ ?_
        clear h
        rintro lm le w ⟨i, rfl, hi0, hi1, rfl, h⟩ ih
        by_cases hi : i < vl
        · obtain ⟨y, hyi⟩ := has_elem (show i < jobs.length by omega)
          obtain ⟨vo, rfl⟩ := ownS_addr (E := T.haycroftref11_Job) h (.there (.there (.there .here))) (by omega)
          cases wr
          · repeat' (first | contradiction | refine stP ?_ | (refine stC0_P11e ?_; rintro _ w ⟨(⟨rfl, hb⟩ | ⟨rfl, hb⟩), h⟩) | (refine stC1_P11e ?_; rintro v w h) | (refine stC2_P11e ?_; rintro _ w ⟨bx, rfl, h⟩) | (refine stD3_P11e ?_; rintro _ w ⟨rfl, h⟩ <;> refine nowa ?_) | (refine p_cmp rfl rfl rfl rfl (fun hc => ?_) (fun hc => ?_) <;> simp only [cmpProp] at hc) | refine p_eqa rfl rfl rfl rfl rfl rfl (fun hc => ?_) (fun hc => ?_) | (refine r_cmp rfl rfl rfl rfl rfl (fun hc => ?_) (fun hc => ?_) <;> simp only [cmpProp] at hc) | refine r_eqa rfl rfl rfl rfl rfl rfl rfl (fun hc => ?_) (fun hc => ?_) | (refine x_drawn rfl ?_; have h := h.drew) | refine x_drawn rfl ?_ | fail)
            exact x_keep [0, 2, 3, 5, 10] rfl (ih _ _ _ (by omega) ⟨i + 1, rfl, by omega, fun e => (by cases e), rfl, h.pm4⟩)
          · by_cases hb : busyJ a n y
            · rw [if_pos ⟨rfl, y, List.mem_of_getElem? hyi, hb⟩]
              obtain ⟨h1, h2, h3, h4⟩ := hb
              obtain ⟨ya, yn, yw, ys, ynn, yst⟩ := y
              dsimp only at h1 h2 h3 h4
              subst h1 h2 h3 h4
              repeat' (first | contradiction | (refine gLR ?_; first | (refine r_own (dst := some 39) rfl rfl rfl h (fun w h => g_ldF (i := i) (f := 5) jobDC_len rfl (ownS_rd h (by repeat first | exact .here | apply Has.there)) hyi rfl (by omega)) ?_) | (refine r_own (dst := some 50) rfl rfl rfl h (fun w h => g_ldF (i := i) (f := 2) jobDC_len rfl (ownS_rd h (by repeat first | exact .here | apply Has.there)) hyi rfl (by omega)) ?_) | (refine r_own (dst := some 60) rfl rfl rfl h (fun w h => g_ldP (i := i) (f := 0) (us := [.int .i64 ya, .int .i64 yn]) jobDC_len rfl (ownS_rd h (by repeat first | exact .here | apply Has.there)) hyi rfl (jobD_b ⟨ya, yn, true, ys, ynn, 0⟩) (by omega)) ?_) | (refine r_own (dst := some 61) rfl rfl rfl h (fun w h => g_ldq (vs := [.int .i64 ya, .int .i64 yn]) rfl (h.at (by repeat first | exact .here | apply Has.there)) rfl rfl) ?_)) | refine stP ?_ | (refine stC0_P11e ?_; rintro _ w ⟨(⟨rfl, hb⟩ | ⟨rfl, hb⟩), h⟩) | (refine stC1_P11e ?_; rintro v w h) | (refine stC2_P11e ?_; rintro _ w ⟨bx, rfl, h⟩) | (refine stD3_P11e ?_; rintro _ w ⟨rfl, h⟩ <;> refine nowa ?_) | (refine p_cmp rfl rfl rfl rfl (fun hc => ?_) (fun hc => ?_) <;> simp only [cmpProp] at hc) | refine p_eqa rfl rfl rfl rfl rfl rfl (fun hc => ?_) (fun hc => ?_) | (refine r_cmp rfl rfl rfl rfl rfl (fun hc => ?_) (fun hc => ?_) <;> simp only [cmpProp] at hc) | refine r_eqa rfl rfl rfl rfl rfl rfl rfl (fun hc => ?_) (fun hc => ?_) | (refine x_drawn rfl ?_; have h := h.drew) | refine x_drawn rfl ?_ | fail)
              · exact x_ret' is_ref11_Device_Ask rfl ⟨rfl, _, h.pm3⟩
              · exact absurd ⟨rfl, rfl, trivial⟩ hc
            · obtain ⟨ya, yn, yw, ys, ynn, yst⟩ := y
              have hnx : true = true → ∀ k y, k < i + 1 → jobs[k]? = some y → ¬ busyJ a n y := fun _ => lt_next (hi1 rfl) hyi hb
              cases yw
              · repeat' (first | contradiction | (refine gLR ?_; first | (refine r_own (dst := some 39) rfl rfl rfl h (fun w h => g_ldF (i := i) (f := 5) jobDC_len rfl (ownS_rd h (by repeat first | exact .here | apply Has.there)) hyi rfl (by omega)) ?_) | (refine r_own (dst := some 50) rfl rfl rfl h (fun w h => g_ldF (i := i) (f := 2) jobDC_len rfl (ownS_rd h (by repeat first | exact .here | apply Has.there)) hyi rfl (by omega)) ?_)) | refine stP ?_ | (refine stC0_P11e ?_; rintro _ w ⟨(⟨rfl, hb⟩ | ⟨rfl, hb⟩), h⟩) | (refine stC1_P11e ?_; rintro v w h) | (refine stC2_P11e ?_; rintro _ w ⟨bx, rfl, h⟩) | (refine stD3_P11e ?_; rintro _ w ⟨rfl, h⟩ <;> refine nowa ?_) | (refine p_cmp rfl rfl rfl rfl (fun hc => ?_) (fun hc => ?_) <;> simp only [cmpProp] at hc) | refine p_eqa rfl rfl rfl rfl rfl rfl (fun hc => ?_) (fun hc => ?_) | (refine r_cmp rfl rfl rfl rfl rfl (fun hc => ?_) (fun hc => ?_) <;> simp only [cmpProp] at hc) | refine r_eqa rfl rfl rfl rfl rfl rfl rfl (fun hc => ?_) (fun hc => ?_) | (refine x_drawn rfl ?_; have h := h.drew) | refine x_drawn rfl ?_ | fail)
                all_goals exact x_keep [0, 2, 3, 5, 10] rfl (ih _ _ _ (by omega) ⟨i + 1, rfl, by omega, hnx, rfl, h.pm4⟩)
              · repeat' (first | contradiction | (refine gLR ?_; first | (refine r_own (dst := some 39) rfl rfl rfl h (fun w h => g_ldF (i := i) (f := 5) jobDC_len rfl (ownS_rd h (by repeat first | exact .here | apply Has.there)) hyi rfl (by omega)) ?_) | (refine r_own (dst := some 50) rfl rfl rfl h (fun w h => g_ldF (i := i) (f := 2) jobDC_len rfl (ownS_rd h (by repeat first | exact .here | apply Has.there)) hyi rfl (by omega)) ?_) | (refine r_own (dst := some 60) rfl rfl rfl h (fun w h => g_ldP (i := i) (f := 0) (us := [.int .i64 ya, .int .i64 yn]) jobDC_len rfl (ownS_rd h (by repeat first | exact .here | apply Has.there)) hyi rfl (jobD_b ⟨ya, yn, true, ys, ynn, yst⟩) (by omega)) ?_) | (refine r_own (dst := some 61) rfl rfl rfl h (fun w h => g_ldq (vs := [.int .i64 a, .int .i64 n]) rfl (h.at (by repeat first | exact .here | apply Has.there)) rfl rfl) ?_)) | refine stP ?_ | (refine stC0_P11e ?_; rintro _ w ⟨(⟨rfl, hb⟩ | ⟨rfl, hb⟩), h⟩) | (refine stC1_P11e ?_; rintro v w h) | (refine stC2_P11e ?_; rintro _ w ⟨bx, rfl, h⟩) | (refine stD3_P11e ?_; rintro _ w ⟨rfl, h⟩ <;> refine nowa ?_) | (refine p_cmp rfl rfl rfl rfl (fun hc => ?_) (fun hc => ?_) <;> simp only [cmpProp] at hc) | refine p_eqa rfl rfl rfl rfl rfl rfl (fun hc => ?_) (fun hc => ?_) | (refine r_cmp rfl rfl rfl rfl rfl (fun hc => ?_) (fun hc => ?_) <;> simp only [cmpProp] at hc) | refine r_eqa rfl rfl rfl rfl rfl rfl rfl (fun hc => ?_) (fun hc => ?_) | (refine x_drawn rfl ?_; have h := h.drew) | refine x_drawn rfl ?_ | fail)
                all_goals first | exact x_keep [0, 2, 3, 5, 10] rfl (ih _ _ _ (by omega) ⟨i + 1, rfl, by omega, hnx, rfl, h.pm4⟩) | exact absurd (show busyJ a n ⟨ya, yn, true, ys, ynn, yst⟩ from ⟨by assumption, rfl, hc.1, hc.2.1⟩) hb
        · obtain rfl : i = vl := by omega
          have hno : ¬ (wr = true ∧ ∃ j ∈ jobs, busyJ a n j) := fun ⟨e, j, hj, hb⟩ => by
            obtain ⟨k, hk⟩ := List.getElem?_of_mem hj
            exact hi1 e k j (by have := (List.getElem?_eq_some_iff.1 hk).1; omega) hk hb
          rw [if_neg hno]
          by_cases hf : 32 ≤ (flightGo 0 jobs).length
          · rw [if_pos hf]
            repeat' (first | contradiction | (refine gC F.ref11_Device_Flight ?_; refine p_call rfl rfl (ref11_Device_Flight_spec ⟨false, items, jobs⟩ (by dsimp only; omega) (h.rf3)) ?_; rintro v w h; obtain ⟨fa, fl, fc, rfl, hfl, _⟩ := ownS_slice h .here; rw [ints_length, Nat.mul_one] at hfl; dsimp only at hfl h) | refine stP ?_ | (refine stC0_P11e ?_; rintro _ w ⟨(⟨rfl, hb⟩ | ⟨rfl, hb⟩), h⟩) | (refine stC1_P11e ?_; rintro v w h) | (refine stC2_P11e ?_; rintro _ w ⟨bx, rfl, h⟩) | (refine stD3_P11e ?_; rintro _ w ⟨rfl, h⟩ <;> refine nowa ?_) | (refine p_cmp rfl rfl rfl rfl (fun hc => ?_) (fun hc => ?_) <;> simp only [cmpProp] at hc) | refine p_eqa rfl rfl rfl rfl rfl rfl (fun hc => ?_) (fun hc => ?_) | (refine r_cmp rfl rfl rfl rfl rfl (fun hc => ?_) (fun hc => ?_) <;> simp only [cmpProp] at hc) | refine r_eqa rfl rfl rfl rfl rfl rfl rfl (fun hc => ?_) (fun hc => ?_) | (refine x_drawn rfl ?_; have h := h.drew) | refine x_drawn rfl ?_ | fail)
            all_goals first | (exfalso; omega) | exact x_ret' is_ref11_Device_Ask rfl ⟨rfl, _, h.pm3⟩
          · rw [if_neg hf]
            repeat' (first | contradiction | (refine gC F.ref11_Device_Flight ?_; refine p_call rfl rfl (ref11_Device_Flight_spec ⟨false, items, jobs⟩ (by dsimp only; omega) (h.rf3)) ?_; rintro v w h; obtain ⟨fa, fl, fc, rfl, hfl, _⟩ := ownS_slice h .here; rw [ints_length, Nat.mul_one] at hfl; dsimp only at hfl h) | (refine r_own (dst := some 73) rfl rfl rfl h (fun w h => g_ldq (vs := [.int .i64 a, .int .i64 n]) rfl (h.at (by repeat first | exact .here | apply Has.there)) rfl rfl) ?_) | (refine r_do (d := some 77) rfl rfl (d_lit (jobDC ⟨a, n, wr, s, false, 0⟩) rfl rfl rfl rfl rfl h) ?_; intro v9 w h; refine nowa ?_) | (refine r_do rfl rfl (d_appR rfl rfl rfl (by decide) (h.pick (by repeat first | exact .here | apply Has.there)) (ownS_rd h .here) (jobDC_one _) (by rw [rows_length jobDC_len, jobDC_len]; omega) (by rw [rows_length jobDC_len, jobDC_len]; omega)) ?_; intro v8 w h; rw [← rows_one (enc := jobDC), ← rows_append] at h; obtain ⟨_, ll, _, rfl, hll, _⟩ := ownS_slice h .here; rw [rows_length jobDC_len, List.length_append, List.length_singleton] at hll; refine nowa ?_) | refine stP ?_ | (refine stC0_P11e ?_; rintro _ w ⟨(⟨rfl, hb⟩ | ⟨rfl, hb⟩), h⟩) | (refine stC1_P11e ?_; rintro v w h) | (refine stC2_P11e ?_; rintro _ w ⟨bx, rfl, h⟩) | (refine stD3_P11e ?_; rintro _ w ⟨rfl, h⟩ <;> refine nowa ?_) | (refine p_cmp rfl rfl rfl rfl (fun hc => ?_) (fun hc => ?_) <;> simp only [cmpProp] at hc) | refine p_eqa rfl rfl rfl rfl rfl rfl (fun hc => ?_) (fun hc => ?_) | (refine r_cmp rfl rfl rfl rfl rfl (fun hc => ?_) (fun hc => ?_) <;> simp only [cmpProp] at hc) | refine r_eqa rfl rfl rfl rfl rfl rfl rfl (fun hc => ?_) (fun hc => ?_) | (refine x_drawn rfl ?_; have h := h.drew) | refine x_drawn rfl ?_ | fail)
            exact x_ret' is_ref11_Device_Ask rfl ⟨by dsimp only; rw [show ((jobs.length : Int) + 1) = (ll : Int) from by omega]; rfl, _, h.pm3⟩
    · rw [if_pos hm]
      repeat' (first | contradiction | (refine p_val rfl (g_ldq (vs := [.int .i64 a, .int .i64 n]) rfl (h.at (by repeat first | exact .here | apply Has.there)) rfl rfl) ?_) | refine stP ?_ | (refine stC0_P11e ?_; rintro _ w ⟨(⟨rfl, hb⟩ | ⟨rfl, hb⟩), h⟩) | (refine stC1_P11e ?_; rintro v w h) | (refine stC2_P11e ?_; rintro _ w ⟨bx, rfl, h⟩) | (refine stD3_P11e ?_; rintro _ w ⟨rfl, h⟩ <;> refine nowa ?_) | (refine p_cmp rfl rfl rfl rfl (fun hc => ?_) (fun hc => ?_) <;> simp only [cmpProp] at hc) | refine p_eqa rfl rfl rfl rfl rfl rfl (fun hc => ?_) (fun hc => ?_) | (refine r_cmp rfl rfl rfl rfl rfl (fun hc => ?_) (fun hc => ?_) <;> simp only [cmpProp] at hc) | refine r_eqa rfl rfl rfl rfl rfl rfl rfl (fun hc => ?_) (fun hc => ?_) | (refine x_drawn rfl ?_; have h := h.drew) | refine x_drawn rfl ?_ | fail)
      exact x_ret' is_ref11_Device_Ask rfl ⟨rfl, _, h.pm3⟩
  · dsimp only at h ⊢
    rw [if_pos rfl]
    repeat' (first | contradiction | refine stP ?_ | (refine stC0_P11e ?_; rintro _ w ⟨(⟨rfl, hb⟩ | ⟨rfl, hb⟩), h⟩) | (refine stC1_P11e ?_; rintro v w h) | (refine stC2_P11e ?_; rintro _ w ⟨bx, rfl, h⟩) | (refine stD3_P11e ?_; rintro _ w ⟨rfl, h⟩ <;> refine nowa ?_) | (refine p_cmp rfl rfl rfl rfl (fun hc => ?_) (fun hc => ?_) <;> simp only [cmpProp] at hc) | refine p_eqa rfl rfl rfl rfl rfl rfl (fun hc => ?_) (fun hc => ?_) | (refine r_cmp rfl rfl rfl rfl rfl (fun hc => ?_) (fun hc => ?_) <;> simp only [cmpProp] at hc) | refine r_eqa rfl rfl rfl rfl rfl rfl rfl (fun hc => ?_) (fun hc => ?_) | (refine x_drawn rfl ?_; have h := h.drew) | refine x_drawn rfl ?_ | fail)
    exact x_ret' is_ref11_Device_Ask rfl ⟨rfl, _, h.pm3⟩
theorem jobAt_get {jobs : List JobD} {t : Int} {j : JobD} (h : jobAt jobs t = some j) : 1 ≤ t ∧ jobs[(t - 1).toNat]? = some j ∧ (((t - 1).toNat : Nat) : Int) = t - 1 := by
  unfold jobAt at h
  by_cases h1 : 1 ≤ t
  · rw [if_pos h1] at h
    exact ⟨h1, h, by omega⟩
  · rw [if_neg h1] at h
    cases h
-- MACRO ATA(qd, qs, P) = (refine gC F.ref11_Device_At ?_; refine p_call (dst := some qd) rfl rfl (ref11_Device_At_spec ⟨false, items, jobs⟩ t qs hl ht (h.rf3)) ?_; rintro _ w ⟨(⟨rfl, hb⟩ | ⟨rfl, hb⟩), h⟩; P; dsimp only at h)
set_option maxHeartbeats 16000000 in
theorem ref11_Device_Take_spec {mb : Nat} {iv jv : Value} (m : DocM) (t : Int) (hl : m.jobs.length ≤ 1000) (ht : -9223372036854775808 ≤ t) (h : Sat S w (pt mb (.cells #[.bool (m).off, iv, jv] T.haycroftref11_Device (0, 0)) :: ownS T.haycroftref11_Item 3 iv (rows itemC (m).items) :: ownS T.haycroftref11_Job 6 jv (rows jobDC (m).jobs) :: G)) :
    Ret Try.prog F.ref11_Device_Take #[.pointer (some ⟨mb, 0, none⟩), .int .i64 t] w (fun v w' => v = .tuple #[.string (takeD m t).1.1, .int .i64 (takeD m t).1.2] ∧ Sat S w' (pt mb (.cells #[.bool ((takeD m t).2).off, iv, jv] T.haycroftref11_Device (0, 0)) :: ownS T.haycroftref11_Item 3 iv (rows itemC ((takeD m t).2).items) :: ownS T.haycroftref11_Job 6 jv (rows jobDC ((takeD m t).2).jobs) :: G)) := by
  obtain ⟨off, items, jobs⟩ := m
  dsimp only at hl h
  unfold takeD
  refine ret_of is_ref11_Device_Take rfl ?_
  cases off
  · dsimp only at h ⊢
    rw [if_neg (by simp)]
    cases hj : jobAt jobs t with
    | none =>
      have hn : ∀ st, ¬ atD jobs t st := fun st e => by
        obtain ⟨j, h1, _⟩ := at_iff.1 e
        rw [hj] at h1
        cases h1
      dsimp only
      repeat' (first | contradiction | (refine gC F.ref11_Device_At ?_; refine p_call (dst := some 13) rfl rfl (ref11_Device_At_spec ⟨false, items, jobs⟩ t 0 hl ht (h.rf3)) ?_; rintro _ w ⟨(⟨rfl, hb⟩ | ⟨rfl, hb⟩), h⟩; exact absurd hb (hn 0); dsimp only at h) | (refine gC F.ref11_Device_At ?_; refine p_call (dst := some 16) rfl rfl (ref11_Device_At_spec ⟨false, items, jobs⟩ t 1 hl ht (h.rf3)) ?_; rintro _ w ⟨(⟨rfl, hb⟩ | ⟨rfl, hb⟩), h⟩; exact absurd hb (hn 1); dsimp only at h) | refine stP ?_ | (refine stC0_P11e ?_; rintro _ w ⟨(⟨rfl, hb⟩ | ⟨rfl, hb⟩), h⟩) | (refine stC2_P11e ?_; rintro _ w ⟨bx, rfl, h⟩) | (refine stC4_P11e ?_; rintro _ w ⟨rfl, h⟩) | fail)
      exact x_ret' is_ref11_Device_Take rfl ⟨rfl, h.pm3⟩
    | some j =>
      obtain ⟨t1, hg, hk⟩ := jobAt_get hj
      have hat : ∀ st, atD jobs t st ↔ j.state = st := fun st => by
        rw [at_iff, hj]
        exact ⟨fun ⟨y, e, h⟩ => by injection e with e; rw [e]; exact h, fun h => ⟨j, rfl, h⟩⟩
      generalize (t - 1).toNat = k at hg hk
      have hkl := (List.getElem?_eq_some_iff.1 hg).1
      obtain ⟨va, vl, vc, rfl, hvl, _⟩ := ownS_slice h (.there (.there .here))
      rw [rows_length jobDC_len] at hvl
      obtain ⟨vo, rfl⟩ := ownS_addr (E := T.haycroftref11_Job) h (.there (.there .here)) (by omega)
      dsimp only
      by_cases s0 : j.state = 0
      · rw [if_pos s0]
        repeat' (first | contradiction | (refine gC F.ref11_Device_At ?_; refine p_call (dst := some 13) rfl rfl (ref11_Device_At_spec ⟨false, items, jobs⟩ t 0 hl ht (h.rf3)) ?_; rintro _ w ⟨(⟨rfl, hb⟩ | ⟨rfl, hb⟩), h⟩; rotate_left; exact absurd ((hat 0).2 s0) hb; dsimp only at h) | refine stP ?_ | (refine stC0_P11e ?_; rintro _ w ⟨(⟨rfl, hb⟩ | ⟨rfl, hb⟩), h⟩) | (refine stC2_P11e ?_; rintro _ w ⟨bx, rfl, h⟩) | (refine stC4_P11e ?_; rintro _ w ⟨rfl, h⟩) | fail)
        exact x_ret' is_ref11_Device_Take rfl ⟨rfl, h.pm3⟩
      · rw [if_neg s0]
        by_cases s1 : j.state = 1
        · rw [if_pos s1]
          obtain ⟨ya, yn, yw, ys, ynn, yst⟩ := j
          dsimp only
          cases ynn
          · repeat' (first | contradiction | (refine gC F.ref11_Device_At ?_; refine p_call (dst := some 13) rfl rfl (ref11_Device_At_spec ⟨false, items, jobs⟩ t 0 hl ht (h.rf3)) ?_; rintro _ w ⟨(⟨rfl, hb⟩ | ⟨rfl, hb⟩), h⟩; exact absurd ((hat 0).1 hb) s0; dsimp only at h) | (refine gC F.ref11_Device_At ?_; refine p_call (dst := some 16) rfl rfl (ref11_Device_At_spec ⟨false, items, jobs⟩ t 1 hl ht (h.rf3)) ?_; rintro _ w ⟨(⟨rfl, hb⟩ | ⟨rfl, hb⟩), h⟩; rotate_left; exact absurd ((hat 1).2 s1) hb; dsimp only at h) | (refine gL ?_; refine p_val (dst := some 25) rfl (g_ldE (i := k) jobDC_len rfl (ownS_rd h (by repeat first | exact .here | apply Has.there)) hg (by omega)) ?_) | (refine p_do rfl (d_stR (f := 5) (a' := ⟨ya, yn, yw, ys, false, 2⟩) jobDC_len rfl rfl rfl (h.pick (by repeat first | exact .here | apply Has.there)) hg rfl (by decide) (by omega)) ?_; rintro _ w ⟨rfl, h⟩) | refine stP ?_ | (refine stC0_P11e ?_; rintro _ w ⟨(⟨rfl, hb⟩ | ⟨rfl, hb⟩), h⟩) | (refine stC2_P11e ?_; rintro _ w ⟨bx, rfl, h⟩) | (refine stC4_P11e ?_; rintro _ w ⟨rfl, h⟩) | fail)
            exact x_ret' is_ref11_Device_Take rfl ⟨rfl, h.pm3⟩
          · repeat' (first | contradiction | (refine gC F.ref11_Device_At ?_; refine p_call (dst := some 13) rfl rfl (ref11_Device_At_spec ⟨false, items, jobs⟩ t 0 hl ht (h.rf3)) ?_; rintro _ w ⟨(⟨rfl, hb⟩ | ⟨rfl, hb⟩), h⟩; exact absurd ((hat 0).1 hb) s0; dsimp only at h) | (refine gC F.ref11_Device_At ?_; refine p_call (dst := some 16) rfl rfl (ref11_Device_At_spec ⟨false, items, jobs⟩ t 1 hl ht (h.rf3)) ?_; rintro _ w ⟨(⟨rfl, hb⟩ | ⟨rfl, hb⟩), h⟩; rotate_left; exact absurd ((hat 1).2 s1) hb; dsimp only at h) | (refine gL ?_; refine p_val (dst := some 25) rfl (g_ldE (i := k) jobDC_len rfl (ownS_rd h (by repeat first | exact .here | apply Has.there)) hg (by omega)) ?_) | (refine p_do rfl (d_stR (f := 5) (a' := ⟨ya, yn, yw, ys, true, 2⟩) jobDC_len rfl rfl rfl (h.pick (by repeat first | exact .here | apply Has.there)) hg rfl (by decide) (by omega)) ?_; rintro _ w ⟨rfl, h⟩) | refine stP ?_ | (refine stC0_P11e ?_; rintro _ w ⟨(⟨rfl, hb⟩ | ⟨rfl, hb⟩), h⟩) | (refine stC2_P11e ?_; rintro _ w ⟨bx, rfl, h⟩) | (refine stC4_P11e ?_; rintro _ w ⟨rfl, h⟩) | fail)
            exact x_ret' is_ref11_Device_Take rfl ⟨rfl, h.pm3⟩
        · rw [if_neg s1]
          repeat' (first | contradiction | (refine gC F.ref11_Device_At ?_; refine p_call (dst := some 13) rfl rfl (ref11_Device_At_spec ⟨false, items, jobs⟩ t 0 hl ht (h.rf3)) ?_; rintro _ w ⟨(⟨rfl, hb⟩ | ⟨rfl, hb⟩), h⟩; exact absurd ((hat 0).1 hb) s0; dsimp only at h) | (refine gC F.ref11_Device_At ?_; refine p_call (dst := some 16) rfl rfl (ref11_Device_At_spec ⟨false, items, jobs⟩ t 1 hl ht (h.rf3)) ?_; rintro _ w ⟨(⟨rfl, hb⟩ | ⟨rfl, hb⟩), h⟩; exact absurd ((hat 1).1 hb) s1; dsimp only at h) | refine stP ?_ | (refine stC0_P11e ?_; rintro _ w ⟨(⟨rfl, hb⟩ | ⟨rfl, hb⟩), h⟩) | (refine stC2_P11e ?_; rintro _ w ⟨bx, rfl, h⟩) | (refine stC4_P11e ?_; rintro _ w ⟨rfl, h⟩) | fail)
          exact x_ret' is_ref11_Device_Take rfl ⟨rfl, h.pm3⟩
  · dsimp only at h ⊢
    rw [if_pos rfl]
    repeat' (first | contradiction | refine stP ?_ | (refine stC0_P11e ?_; rintro _ w ⟨(⟨rfl, hb⟩ | ⟨rfl, hb⟩), h⟩) | (refine stC2_P11e ?_; rintro _ w ⟨bx, rfl, h⟩) | (refine stC4_P11e ?_; rintro _ w ⟨rfl, h⟩) | fail)
    exact x_ret' is_ref11_Device_Take rfl ⟨rfl, h.pm3⟩
end
end Go.Proofs.Ytfchenbihepjaaa
