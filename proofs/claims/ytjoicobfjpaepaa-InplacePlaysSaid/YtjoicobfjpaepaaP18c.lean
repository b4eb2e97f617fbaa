/- Layer 18 (inplace): the moves of writers. -/
import Derived.Test.YtjoicobfjpaepaaHxS
import Derived.Test.YtjoicobfjpaepaaP18b
namespace Go.Proofs.Ytjoicobfjpaepaa
open Go Go.HX
attribute [local irreducible] Ret XRun XOps XDr XOne Does Gives
set_option maxRecDepth 4000
set_option maxHeartbeats 1000000
theorem stC0_P18c {goal next : Prop} (k : next) (hs : Hid next → goal := by (intro k; (first | (refine gS ?_; (first | refine p_do rfl (d_stwL rfl rfl rfl rfl rfl (h.pick (by repeat first | exact .here | apply Has.there)) (by first | (dsimp only [Value.cells]; done) | exact rfl)) ?_ | refine p_do rfl (d_stL rfl rfl rfl (h.pick (by repeat first | exact .here | apply Has.there)) (by first | exact of_decide_eq_true rfl | simp) (by first | (dsimp only [List.set]; done) | exact rfl)) ?_)) | (refine gC F.inplace_Writer_read ?_; refine p_call rfl rfl (inplace_Writer_read_spec ?_ ?_ ?_ _ ?_ (h.rf5)) ?_; iterate 4 (first | assumption | omega | (simp only []; omega) | decide)) | (refine gC F.inplace_Writer_end ?_; refine p_call rfl rfl (inplace_Writer_end_spec ?_ ?_ ?_ ?_ ?_ _ ?_ ?_ (h.rf4)) ?_; iterate 7 (first | assumption | omega | (simp only []; omega) | decide)) | fail); exact k.out)) : goal := hs ⟨k⟩
theorem stC1_P18c {goal next : Prop} (k : next) (hs : Hid next → goal := by (intro k; (first | (refine gC F.inplace_Reader_read ?_; refine p_call rfl rfl (inplace_Reader_read_spec ?_ ?_ ?_ ?_ _ (h.rf5)) ?_; iterate 4 (first | assumption | omega | (simp only []; omega) | decide)) | fail); exact k.out)) : goal := hs ⟨k⟩
/-- The next state that has something to do. -/
def WrM.next (x : WrM) (s : Int) : Int := if (if s = 1 ∧ x.add = false then 2 else s) = 2 ∧ x.words ≤ x.at_ then 3 else (if s = 1 ∧ x.add = false then 2 else s)
section
variable {S : SP} {w : World} {G : List HProp}

set_option maxHeartbeats 4000000 in
theorem inplace_Writer_goes_spec {b r : Nat} {x : WrM} {u : Value} (s : Int) (h : Sat S w (pt r (.cells (wrC b x u).toArray T.inplace_Writer (0, 0)) :: G)) :
    Ret Try.prog F.inplace_Writer_goes #[.pointer (some ⟨r, 0, none⟩), .int .i64 s] w (fun v w' => v = .tuple #[] ∧ Sat S w' (pt r (.cells (wrC b { x with st := x.next s } u).toArray T.inplace_Writer (0, 0)) :: G)) := by
  refine ret_of is_inplace_Writer_goes rfl ?_
  obtain ⟨lk, vl, wds, st, ad, n, at_, held⟩ := x
  cases ad
  · by_cases h1 : s = 1
    · subst h1
      by_cases h2 : wds ≤ at_
      · rw [show WrM.next ⟨lk, vl, wds, st, false, n, at_, held⟩ 1 = 3 by unfold WrM.next; simp [h2]]
        repeat' (first | refine stPs ?_ | (refine stC0_P18c ?_; rintro _ w ⟨rfl, h⟩) | (refine p_cmp rfl rfl rfl rfl (fun hc => ?_) (fun hc => ?_) <;> simp only [cmpProp] at hc) | (refine r_cmp rfl rfl rfl rfl rfl (fun hc => ?_) (fun hc => ?_) <;> simp only [cmpProp] at hc) | (refine x_drawn rfl ?_; have h := h.drew) | refine x_drawn rfl ?_ | fail)
        exact x_end' is_inplace_Writer_goes rfl ⟨rfl, h.pm1⟩
      · rw [show WrM.next ⟨lk, vl, wds, st, false, n, at_, held⟩ 1 = 2 by unfold WrM.next; simp [h2]]
        repeat' (first | refine stPs ?_ | (refine stC0_P18c ?_; rintro _ w ⟨rfl, h⟩) | (refine p_cmp rfl rfl rfl rfl (fun hc => ?_) (fun hc => ?_) <;> simp only [cmpProp] at hc) | (refine r_cmp rfl rfl rfl rfl rfl (fun hc => ?_) (fun hc => ?_) <;> simp only [cmpProp] at hc) | (refine x_drawn rfl ?_; have h := h.drew) | refine x_drawn rfl ?_ | fail)
        exact x_end' is_inplace_Writer_goes rfl ⟨rfl, h.pm1⟩
    · by_cases h2 : s = 2 ∧ wds ≤ at_
      · rw [show WrM.next ⟨lk, vl, wds, st, false, n, at_, held⟩ s = 3 by unfold WrM.next; simp [h2]]
        repeat' (first | refine stPs ?_ | (refine stC0_P18c ?_; rintro _ w ⟨rfl, h⟩) | (refine p_cmp rfl rfl rfl rfl (fun hc => ?_) (fun hc => ?_) <;> simp only [cmpProp] at hc) | (refine r_cmp rfl rfl rfl rfl rfl (fun hc => ?_) (fun hc => ?_) <;> simp only [cmpProp] at hc) | (refine x_drawn rfl ?_; have h := h.drew) | refine x_drawn rfl ?_ | fail)
        all_goals first | (exfalso; omega) | exact x_end' is_inplace_Writer_goes rfl ⟨rfl, h.pm1⟩
      · rw [show WrM.next ⟨lk, vl, wds, st, false, n, at_, held⟩ s = s by unfold WrM.next; simp only [h1, false_and, if_false]; rw [if_neg h2]]
        repeat' (first | refine stPs ?_ | (refine stC0_P18c ?_; rintro _ w ⟨rfl, h⟩) | (refine p_cmp rfl rfl rfl rfl (fun hc => ?_) (fun hc => ?_) <;> simp only [cmpProp] at hc) | (refine r_cmp rfl rfl rfl rfl rfl (fun hc => ?_) (fun hc => ?_) <;> simp only [cmpProp] at hc) | (refine x_drawn rfl ?_; have h := h.drew) | refine x_drawn rfl ?_ | fail)
        all_goals first | (exfalso; omega) | exact x_end' is_inplace_Writer_goes rfl ⟨rfl, h.pm1⟩
  · by_cases h2 : s = 2 ∧ wds ≤ at_
    · rw [show WrM.next ⟨lk, vl, wds, st, true, n, at_, held⟩ s = 3 by unfold WrM.next; simp [h2]]
      repeat' (first | refine stPs ?_ | (refine stC0_P18c ?_; rintro _ w ⟨rfl, h⟩) | (refine p_cmp rfl rfl rfl rfl (fun hc => ?_) (fun hc => ?_) <;> simp only [cmpProp] at hc) | (refine r_cmp rfl rfl rfl rfl rfl (fun hc => ?_) (fun hc => ?_) <;> simp only [cmpProp] at hc) | (refine x_drawn rfl ?_; have h := h.drew) | refine x_drawn rfl ?_ | fail)
      all_goals first | (exfalso; omega) | exact x_end' is_inplace_Writer_goes rfl ⟨rfl, h.pm1⟩
    · rw [show WrM.next ⟨lk, vl, wds, st, true, n, at_, held⟩ s = s by unfold WrM.next; simp only [Bool.true_eq_false, and_false, if_false]; rw [if_neg h2]]
      repeat' (first | refine stPs ?_ | (refine stC0_P18c ?_; rintro _ w ⟨rfl, h⟩) | (refine p_cmp rfl rfl rfl rfl (fun hc => ?_) (fun hc => ?_) <;> simp only [cmpProp] at hc) | (refine r_cmp rfl rfl rfl rfl rfl (fun hc => ?_) (fun hc => ?_) <;> simp only [cmpProp] at hc) | (refine x_drawn rfl ?_; have h := h.drew) | refine x_drawn rfl ?_ | fail)
      all_goals first | (exfalso; omega) | exact x_end' is_inplace_Writer_goes rfl ⟨rfl, h.pm1⟩

theorem inplace_Writer_Move_nil (h : Sat S w G) : Ret Try.prog F.inplace_Writer_Move #[.pointer none] w (fun v w' => v = .tuple #[.int .i64 0, .int .i64 2] ∧ Sat S w' G) := by
  refine ret_of is_inplace_Writer_Move rfl ?_
  repeat' (first | refine stPs ?_ | (refine stC0_P18c ?_; rintro _ w ⟨rfl, h⟩) | (refine p_cmp rfl rfl rfl rfl (fun hc => ?_) (fun hc => ?_) <;> simp only [cmpProp] at hc) | fail)
  exact x_ret' is_inplace_Writer_Move rfl ⟨rfl, h⟩

theorem inplace_Reader_Move_nil (h : Sat S w G) : Ret Try.prog F.inplace_Reader_Move #[.pointer none] w (fun v w' => v = .tuple #[.int .i64 0, .int .i64 2] ∧ Sat S w' G) := by
  refine ret_of is_inplace_Reader_Move rfl ?_
  repeat' (first | refine stPs ?_ | (refine stC1_P18c ?_; rintro _ w ⟨rfl, ⟨u, h⟩⟩) | (refine p_cmp rfl rfl rfl rfl (fun hc => ?_) (fun hc => ?_) <;> simp only [cmpProp] at hc) | (refine r_cmp rfl rfl rfl rfl rfl (fun hc => ?_) (fun hc => ?_) <;> simp only [cmpProp] at hc) | (refine x_drawn rfl ?_; have h := h.drew) | refine x_drawn rfl ?_ | fail)
  exact x_ret' is_inplace_Reader_Move rfl ⟨rfl, h⟩

theorem inplace_Writer_Holds_nil (h : Sat S w G) : Ret Try.prog F.inplace_Writer_Holds #[.pointer none] w (fun v w' => v = .bool false ∧ Sat S w' G) := by
  refine ret_of is_inplace_Writer_Holds rfl ?_
  repeat' (first | refine stPs ?_ | (refine p_cmp rfl rfl rfl rfl (fun hc => ?_) (fun hc => ?_) <;> simp only [cmpProp] at hc) | fail)
  exact x_ret' is_inplace_Writer_Holds rfl ⟨rfl, h⟩

theorem inplace_Reader_Value_nil (h : Sat S w G) : Ret Try.prog F.inplace_Reader_Value #[.pointer none] w (fun v w' => v = .string ⟨#[]⟩ ∧ Sat S w' G) := by
  refine ret_of is_inplace_Reader_Value rfl ?_
  repeat' (first | refine stPs ?_ | fail)
  exact x_ret' is_inplace_Reader_Value rfl ⟨rfl, h⟩

theorem inplace_Writer_Holds_spec {b r : Nat} {x : WrM} {u : Value} (h : Sat S w (pt r (.cells (wrC b x u).toArray T.inplace_Writer (0, 0)) :: G)) :
    Ret Try.prog F.inplace_Writer_Holds #[.pointer (some ⟨r, 0, none⟩)] w (fun v w' => BoolIs v (0 < x.st ∧ x.st < 4) ∧ Sat S w' (pt r (.cells (wrC b x u).toArray T.inplace_Writer (0, 0)) :: G)) := by
  refine ret_of is_inplace_Writer_Holds rfl ?_
  repeat' (first | refine stPs ?_ | (refine p_cmp rfl rfl rfl rfl (fun hc => ?_) (fun hc => ?_) <;> simp only [cmpProp] at hc) | fail)
  all_goals refine x_ret' is_inplace_Writer_Holds rfl ⟨?_, h.pm1⟩
  all_goals first | exact .t (by omega) | exact .f (by omega)

theorem inplace_Reader_Value_spec {b r : Nat} {x : RdM} {u : Value} (h : Sat S w (pt r (.cells (rdC b x u).toArray T.inplace_Reader (0, 0)) :: G)) :
    Ret Try.prog F.inplace_Reader_Value #[.pointer (some ⟨r, 0, none⟩)] w (fun v w' => v = .string x.value ∧ Sat S w' (pt r (.cells (rdC b x u).toArray T.inplace_Reader (0, 0)) :: G)) := by
  refine ret_of is_inplace_Reader_Value rfl ?_
  repeat' (first | refine stPs ?_ | fail)
  exact x_ret' is_inplace_Reader_Value rfl ⟨rfl, h.pm1⟩
end
end Go.Proofs.Ytjoicobfjpaepaa
