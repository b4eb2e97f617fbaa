/- Layer 11 (device): what the document says of doing. -/
import Derived.Test.YtfchenbihepjaaaHxS
import Derived.Test.YtfchenbihepjaaaP11y
import Derived.Test.YtfchenbihepjaaaP11e
namespace Go.Proofs.Ytfchenbihepjaaa
open Go Go.HX
attribute [local irreducible] Ret XRun XOps XDr XOne Does Gives
set_option maxRecDepth 4000
set_option maxHeartbeats 1000000
theorem stC0_P11f {goal next : Prop} (k : next) (hs : Hid next → goal := by (intro k; (first | (refine gC F.ref11_Device_At ?_; refine p_call rfl rfl (ref11_Device_At_spec _ _ _ ?_ ?_ (h.rf3)) ?_; iterate 2 (first | assumption | omega | (simp only []; omega) | decide)) | fail); exact k.out)) : goal := hs ⟨k⟩
theorem stC1_P11f {goal next : Prop} (k : next) (hs : Hid next → goal := by (intro k; (first | (refine gC F.ref11_Device_Lay ?_; refine p_call rfl rfl (ref11_Device_Lay_spec _ _ _ _ ?_ (h.rf3)) ?_; iterate 1 (first | assumption | omega | (simp only []; omega) | decide)) | fail); exact k.out)) : goal := hs ⟨k⟩
theorem stC2_P11f {goal next : Prop} (k : next) (hs : Hid next → goal := by (intro k; (first | (refine gC F.ref11_Device_Peek ?_; refine p_call rfl rfl (ref11_Device_Peek_spec _ _ _ ?_ (h.rf3)) ?_; iterate 1 (first | assumption | omega | (simp only []; omega) | decide)) | (refine gS ?_; (first | refine p_do rfl (d_stwL rfl rfl rfl rfl rfl (h.pick (by repeat first | exact .here | apply Has.there)) (by first | (dsimp only [Value.cells]; done) | exact rfl)) ?_ | refine p_do rfl (d_stL rfl rfl rfl (h.pick (by repeat first | exact .here | apply Has.there)) (by first | exact of_decide_eq_true rfl | simp) (by first | (dsimp only [List.set]; done) | exact rfl)) ?_)) | fail); exact k.out)) : goal := hs ⟨k⟩
theorem stC3_P11f {goal next : Prop} (k : next) (hs : Hid next → goal := by (intro k; (first | (refine gN ?_; refine p_do rfl (d_newL h (by first | (dsimp only [Value.cells]; done) | exact rfl)) ?_) | fail); exact k.out)) : goal := hs ⟨k⟩
theorem stD4_P11f {goal next : Prop} (k : next) (hs : Hid next → goal := by (intro k; (first | (refine gSR ?_; (first | refine r_do rfl rfl (d_stwL rfl rfl rfl rfl rfl (h.pick (by repeat first | exact .here | apply Has.there)) (by first | (dsimp only [Value.cells]; done) | exact rfl)) ?_ | refine r_do rfl rfl (d_stL rfl rfl rfl (h.pick (by repeat first | exact .here | apply Has.there)) (by first | exact of_decide_eq_true rfl | simp) (by first | (dsimp only [List.set]; done) | exact rfl)) ?_)) | fail); exact k.out)) : goal := hs ⟨k⟩
def doneJ (B : BL) (j : JobD) : JobD := if j.wr = true then { j with state := 1, s := ⟨#[]⟩ } else { j with state := 1, s := (getL (j.area, j.no) B).getD ⟨#[]⟩, none := !(getL (j.area, j.no) B).isSome }
def doD (m : DocM) (t : Int) : Int × DocM :=
  if m.off = true then (6, m) else match jobAt m.jobs t with
    | none => (7, m)
    | some j => if j.state = 0 then (0, { m with items := (if j.wr = true then layGo (j.area, j.no) j.s false m.items else m.items), jobs := m.jobs.set (t - 1).toNat (doneJ m.items j) }) else (7, m)
section
variable {S : SP} {w : World} {G : List HProp}
-- MACRO LDJ(qd) = (refine gL ?_; refine p_val (dst := some qd) rfl (g_ldE (i := k) jobDC_len rfl (ownS_rd h (by repeat first | exact .here | apply Has.there)) hg (by omega)) ?_)
set_option maxHeartbeats 16000000 in
theorem ref11_Device_Do_spec {mb : Nat} {iv jv : Value} (m : DocM) (t : Int) (hl : m.jobs.length ≤ 1000) (hli : m.items.length ≤ 1000) (ht : -9223372036854775808 ≤ t) (h : Sat S w (pt mb (.cells #[.bool (m).off, iv, jv] T.haycroftref11_Device (0, 0)) :: ownS T.haycroftref11_Item 3 iv (rows itemC (m).items) :: ownS T.haycroftref11_Job 6 jv (rows jobDC (m).jobs) :: G)) :
    Ret Try.prog F.ref11_Device_Do #[.pointer (some ⟨mb, 0, none⟩), .int .i64 t] w (fun v w' => v = .int .i64 (doD m t).1 ∧ ∃ iv, Sat S w' (pt mb (.cells #[.bool ((doD m t).2).off, iv, jv] T.haycroftref11_Device (0, 0)) :: ownS T.haycroftref11_Item 3 iv (rows itemC ((doD m t).2).items) :: ownS T.haycroftref11_Job 6 jv (rows jobDC ((doD m t).2).jobs) :: G)) := by
  obtain ⟨off, items, jobs⟩ := m
  dsimp only at hl hli h
  unfold doD
  refine ret_of is_ref11_Device_Do rfl ?_
  cases off
  · dsimp only at h ⊢
    rw [if_neg (by simp)]
    cases hj : jobAt jobs t with
    | none =>
      have hn : ¬ atD jobs t 0 := fun e => by
        obtain ⟨j, h1, _⟩ := at_iff.1 e
        rw [hj] at h1
        cases h1
      dsimp only
      repeat' (first | contradiction | (refine gC F.ref11_Device_At ?_; refine p_call (dst := some 14) rfl rfl (ref11_Device_At_spec ⟨false, items, jobs⟩ t 0 hl ht (h.rf3)) ?_; rintro _ w ⟨(⟨rfl, hb⟩ | ⟨rfl, hb⟩), h⟩; exact absurd hb hn; dsimp only at h) | refine stP ?_ | (refine stC0_P11f ?_; rintro _ w ⟨(⟨rfl, hb⟩ | ⟨rfl, hb⟩), h⟩) | (refine stC1_P11f ?_; rintro _ w ⟨rfl, ⟨iv, h⟩⟩) | (refine stC2_P11f ?_; rintro _ w ⟨rfl, h⟩) | (refine stC3_P11f ?_; rintro _ w ⟨bx, rfl, h⟩) | (refine stD4_P11f ?_; rintro _ w ⟨rfl, h⟩ <;> refine nowa ?_) | (refine x_drawn rfl ?_; have h := h.drew) | refine x_drawn rfl ?_ | fail)
      exact x_ret' is_ref11_Device_Do rfl ⟨rfl, _, h.pm3⟩
    | some j =>
      obtain ⟨t1, hg, hk⟩ := jobAt_get hj
      have hat : atD jobs t 0 ↔ j.state = 0 := by
        rw [at_iff, hj]
        exact ⟨fun ⟨y, e, h⟩ => by injection e with e; rw [e]; exact h, fun h => ⟨j, rfl, h⟩⟩
      generalize (t - 1).toNat = k at hg hk
      have hkl := (List.getElem?_eq_some_iff.1 hg).1
      obtain ⟨va, vl, vc, rfl, hvl, _⟩ := ownS_slice h (.there (.there .here))
      rw [rows_length jobDC_len] at hvl
      obtain ⟨vo, rfl⟩ := ownS_addr (E := T.haycroftref11_Job) h (.there (.there .here)) (by omega)
      dsimp only
      by_cases s0 : j.state = 0
      · rw [if_pos s0]
        obtain ⟨ya, yn, yw, ys, ynn, yst⟩ := j
        dsimp only at s0 ⊢
        cases yw
        · rw [if_neg (by simp), doneJ, if_neg (by simp)]
          dsimp only
          repeat' (first | contradiction | (refine gC F.ref11_Device_At ?_; refine p_call (dst := some 14) rfl rfl (ref11_Device_At_spec ⟨false, items, jobs⟩ t 0 hl ht (h.rf3)) ?_; rintro _ w ⟨(⟨rfl, hb⟩ | ⟨rfl, hb⟩), h⟩; rotate_left; exact absurd (hat.2 s0) hb; dsimp only at h) | (refine gL ?_; refine p_val (dst := some 23) rfl (g_ldE (i := k) jobDC_len rfl (ownS_rd h (by repeat first | exact .here | apply Has.there)) hg (by omega)) ?_) | (refine p_val (dst := some 37) rfl (g_ldq (vs := [.int .i64 ya, .int .i64 yn]) rfl (h.at (by repeat first | exact .here | apply Has.there)) rfl rfl) ?_) | (refine gC F.ref11_Device_Peek ?_; refine p_call rfl rfl (ref11_Device_Peek_spec ⟨false, items, jobs⟩ ya yn hli (h.rf3)) ?_; dsimp only; rintro _ w ⟨rfl, h⟩) | (refine r_do rfl rfl (d_stE (a' := ⟨ya, yn, false, (getL (ya, yn) items).getD ⟨#[]⟩, !(getL (ya, yn) items).isSome, 1⟩) jobDC_len jobDC_one (by decide) rfl rfl rfl (h.pick (by repeat first | exact .here | apply Has.there)) hg (by omega)) ?_; rintro _ w ⟨rfl, h⟩; refine nowa ?_) | refine stP ?_ | (refine stC0_P11f ?_; rintro _ w ⟨(⟨rfl, hb⟩ | ⟨rfl, hb⟩), h⟩) | (refine stC1_P11f ?_; rintro _ w ⟨rfl, ⟨iv, h⟩⟩) | (refine stC2_P11f ?_; rintro _ w ⟨rfl, h⟩) | (refine stC3_P11f ?_; rintro _ w ⟨bx, rfl, h⟩) | (refine stD4_P11f ?_; rintro _ w ⟨rfl, h⟩ <;> refine nowa ?_) | (refine x_drawn rfl ?_; have h := h.drew) | refine x_drawn rfl ?_ | fail)
          exact x_ret' is_ref11_Device_Do rfl ⟨rfl, _, h.pm3⟩
        · rw [if_pos rfl, doneJ, if_pos rfl]
          dsimp only
          repeat' (first | contradiction | (refine gC F.ref11_Device_At ?_; refine p_call (dst := some 14) rfl rfl (ref11_Device_At_spec ⟨false, items, jobs⟩ t 0 hl ht (h.rf3)) ?_; rintro _ w ⟨(⟨rfl, hb⟩ | ⟨rfl, hb⟩), h⟩; rotate_left; exact absurd (hat.2 s0) hb; dsimp only at h) | (refine gL ?_; refine p_val (dst := some 23) rfl (g_ldE (i := k) jobDC_len rfl (ownS_rd h (by repeat first | exact .here | apply Has.there)) hg (by omega)) ?_) | (refine p_val (dst := some 29) rfl (g_ldq (vs := [.int .i64 ya, .int .i64 yn]) rfl (h.at (by repeat first | exact .here | apply Has.there)) rfl rfl) ?_) | (refine gC F.ref11_Device_Lay ?_; refine p_call rfl rfl (ref11_Device_Lay_spec ⟨false, items, jobs⟩ ya yn ys hli (h.rf3)) ?_; dsimp only; rintro _ w ⟨rfl, iv2, h⟩) | (refine r_do rfl rfl (d_stE (a' := ⟨ya, yn, true, ⟨#[]⟩, ynn, 1⟩) jobDC_len jobDC_one (by decide) rfl rfl rfl (h.pick (by repeat first | exact .here | apply Has.there)) hg (by omega)) ?_; rintro _ w ⟨rfl, h⟩; refine nowa ?_) | refine stP ?_ | (refine stC0_P11f ?_; rintro _ w ⟨(⟨rfl, hb⟩ | ⟨rfl, hb⟩), h⟩) | (refine stC1_P11f ?_; rintro _ w ⟨rfl, ⟨iv, h⟩⟩) | (refine stC2_P11f ?_; rintro _ w ⟨rfl, h⟩) | (refine stC3_P11f ?_; rintro _ w ⟨bx, rfl, h⟩) | (refine stD4_P11f ?_; rintro _ w ⟨rfl, h⟩ <;> refine nowa ?_) | (refine x_drawn rfl ?_; have h := h.drew) | refine x_drawn rfl ?_ | fail)
          exact x_ret' is_ref11_Device_Do rfl ⟨rfl, _, h.pm3⟩
      · rw [if_neg s0]
        repeat' (first | contradiction | (refine gC F.ref11_Device_At ?_; refine p_call (dst := some 14) rfl rfl (ref11_Device_At_spec ⟨false, items, jobs⟩ t 0 hl ht (h.rf3)) ?_; rintro _ w ⟨(⟨rfl, hb⟩ | ⟨rfl, hb⟩), h⟩; exact absurd (hat.1 hb) s0; dsimp only at h) | refine stP ?_ | (refine stC0_P11f ?_; rintro _ w ⟨(⟨rfl, hb⟩ | ⟨rfl, hb⟩), h⟩) | (refine stC1_P11f ?_; rintro _ w ⟨rfl, ⟨iv, h⟩⟩) | (refine stC2_P11f ?_; rintro _ w ⟨rfl, h⟩) | (refine stC3_P11f ?_; rintro _ w ⟨bx, rfl, h⟩) | (refine stD4_P11f ?_; rintro _ w ⟨rfl, h⟩ <;> refine nowa ?_) | (refine x_drawn rfl ?_; have h := h.drew) | refine x_drawn rfl ?_ | fail)
        exact x_ret' is_ref11_Device_Do rfl ⟨rfl, _, h.pm3⟩
  · dsimp only at h ⊢
    rw [if_pos rfl]
    repeat' (first | contradiction | refine stP ?_ | (refine stC0_P11f ?_; rintro _ w ⟨(⟨rfl, hb⟩ | ⟨rfl, hb⟩), h⟩) | (refine stC1_P11f ?_; rintro _ w ⟨rfl, ⟨iv, h⟩⟩) | (refine stC2_P11f ?_; rintro _ w ⟨rfl, h⟩) | (refine stC3_P11f ?_; rintro _ w ⟨bx, rfl, h⟩) | (refine stD4_P11f ?_; rintro _ w ⟨rfl, h⟩ <;> refine nowa ?_) | (refine x_drawn rfl ?_; have h := h.drew) | refine x_drawn rfl ?_ | fail)
    exact x_ret' is_ref11_Device_Do rfl ⟨rfl, _, h.pm3⟩
end
end Go.Proofs.Ytfchenbihepjaaa
