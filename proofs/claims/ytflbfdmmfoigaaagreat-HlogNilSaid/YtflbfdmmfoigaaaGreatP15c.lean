/- Layer 15 (hlog): pages whose write isn't under way; a page is flushed. -/
import Derived.Test.YtflbfdmmfoigaaaGreatHxS
import Derived.Test.YtflbfdmmfoigaaaGreatP15b
namespace Go.Proofs.YtflbfdmmfoigaaaGreat
open Go Go.HX
attribute [local irreducible] Ret XRun XOps XDr XOne Does Gives
set_option maxRecDepth 4000
set_option maxHeartbeats 1000000
theorem stC0_P15c {goal next : Prop} (k : next) (hs : Hid next → goal := by (intro k; (first | (refine gC F.marks_Set_At ?_; refine p_call rfl rfl (marks_Set_At_spec _ (h.rf1)) ?_) | (refine gC F.marks_Set_At ?_; refine p_call rfl rfl (marks_Set_At_nil _ h) ?_) | (refine gC F.hlog_Log_Flying ?_; refine p_call rfl rfl (hlog_Log_Flying_nil _ h) ?_) | fail); exact k.out)) : goal := hs ⟨k⟩
theorem stC1_P15c {goal next : Prop} (k : next) (hs : Hid next → goal := by (intro k; (first | (refine gC F.hlog_Log_Flying ?_; refine p_call rfl rfl (hlog_Log_Flying_spec _ _ ?_ (h.rf2)) ?_; iterate 1 (first | assumption | omega | (simp only []; omega) | decide)) | fail); exact k.out)) : goal := hs ⟨k⟩
theorem lkV_n (o : Option Int) : lkV (.int .i64 0) false (o.map (fun n => Value.int .i64 n)) = .int .i64 (o.getD 0) := by cases o <;> rfl
def landN (land : NL) (p : Int) : Int := (getL p land).getD 0
def freeP (land fly : NL) (p : Int) : Prop := landN land p = 0 ∧ ¬ flyR fly p
instance (land fly : NL) (p : Int) : Decidable (freeP land fly p) := by unfold freeP flyR; infer_instance
def groundGo (land fly : NL) : Nat → Int → Int × Bool
  | 0, _ => (0, false)
  | n + 1, p => if freeP land fly p then (p, true) else groundGo land fly n (p + 1)
def groundR (l : List Int) (land fly : NL) (most : Int) : Int × Bool := groundGo land fly (most - atM l 2).toNat (atM l 2)
section
variable {S : SP} {w : World} {G : List HProp}
-- MACRO LKL() = (refine p_val (dst := some 22) rfl (g_lkp (enc := encI) (v := p) (kv := nkv land) keyI rfl rfl (h.pick (by repeat first | exact .here | apply Has.there))) ?_; rw [hk, lkV_n])
set_option maxHeartbeats 8000000 in
theorem hlog_Log_grounded_spec {lg tb pb mk ep du dv fm lq : Nat} {l : List Int} (fly land : NL) (most : Int) (hm : most ≤ 9223372036854775807) (hl : fly.length ≤ 1000) (h : Sat S w (pt lg (.cells #[.pointer (some ⟨tb, 0, none⟩), .pointer (some ⟨pb, 0, none⟩), .pointer (some ⟨mk, 0, none⟩), .pointer (some ⟨ep, 0, none⟩), .pointer (some ⟨du, 0, none⟩), .pointer (some ⟨dv, 0, none⟩), .map (some fm), .map (some lq)] T.hlog_Log (0, 0)) :: isSet mk l :: isMap encI fm (nkv fly) :: isMap encI lq (nkv land) :: G)) :
    Ret Tryz.prog F.hlog_Log_grounded #[.pointer (some ⟨lg, 0, none⟩), .int .i64 most] w (fun v w' => v = .tuple #[.int .i64 (groundR l land fly most).1, .bool (groundR l land fly most).2] ∧ Sat S w' (pt lg (.cells #[.pointer (some ⟨tb, 0, none⟩), .pointer (some ⟨pb, 0, none⟩), .pointer (some ⟨mk, 0, none⟩), .pointer (some ⟨ep, 0, none⟩), .pointer (some ⟨du, 0, none⟩), .pointer (some ⟨dv, 0, none⟩), .map (some fm), .map (some lq)] T.hlog_Log (0, 0)) :: isSet mk l :: isMap encI fm (nkv fly) :: isMap encI lq (nkv land) :: G)) := by
  obtain ⟨_, _, _, hso, _⟩ := isSet_open (h.pick (.there .here))
  refine ret_of is_hlog_Log_grounded rfl ?_
  have h0 : 0 ≤ atM l 2 := by
    unfold atM
    split
    · exact (hso.2 _).1
    · omega
  repeat' (first | contradiction | (refine gC F.marks_Set_At ?_; refine p_call rfl rfl (marks_Set_At_spec 2 (h.rf1)) ?_; rintro _ w ⟨rfl, h⟩) | refine stP ?_ | (refine stC0_P15c ?_; rintro _ w ⟨rfl, h⟩) | (refine stC1_P15c ?_; rintro _ w ⟨(⟨rfl, hb⟩ | ⟨rfl, hb⟩), h⟩) | (refine p_cmp rfl rfl rfl rfl (fun hc => ?_) (fun hc => ?_) <;> simp only [cmpProp] at hc) | fail)
  have hg0 : groundGo land fly (most - atM l 2).toNat (atM l 2) = groundR l land fly most := rfl
  generalize atM l 2 = p0 at h0 hg0
  refine x_keep [0, 1, 6] rfl ?_
  refine x_loop_inv (fun lm le w => ∃ (p : Int), lm = (most - p).toNat ∧ 0 ≤ p ∧ groundGo land fly (most - p).toNat p = groundR l land fly most ∧ le = [(0, .pointer (some ⟨lg, 0, none⟩)), (1, .int .i64 most), (6, .int .i64 p)] ∧ Sat S w (pt lg (.cells #[.pointer (some ⟨tb, 0, none⟩), .pointer (some ⟨pb, 0, none⟩), .pointer (some ⟨mk, 0, none⟩), .pointer (some ⟨ep, 0, none⟩), .pointer (some ⟨du, 0, none⟩), .pointer (some ⟨dv, 0, none⟩), .map (some fm), .map (some lq)] T.hlog_Log (0, 0)) :: isSet mk l :: isMap encI fm (nkv fly) :: isMap encI lq (nkv land) :: G)) ((most - p0).toNat) ⟨p0, rfl, h0, hg0, rfl, h.pm4⟩ ?_
  clear h
  rintro lm le w ⟨p, rfl, hi0, hi1, rfl, h⟩ ih
  by_cases hp : p < most
  · have hk : kvGet p (nkv land) = _ := kvGet_F _ _ _
    obtain ⟨n, hn⟩ : ∃ n, (most - p).toNat = n + 1 := ⟨(most - p).toNat - 1, by omega⟩
    rw [hn, groundGo] at hi1
    have hn2 : n = (most - (p + 1)).toNat := by omega
    have hln : (getL p land).getD 0 = landN land p := rfl
    by_cases hf : freeP land fly p
    · rw [if_pos hf] at hi1
      obtain ⟨f1, f2⟩ := hf
      repeat' (first | contradiction | (exact absurd f1 hc) | (refine p_val (dst := some 22) rfl (g_lkp (enc := encI) (v := p) (kv := nkv land) keyI rfl rfl (h.pick (by repeat first | exact .here | apply Has.there))) ?_; rw [hk, lkV_n, hln]) | (refine gC F.hlog_Log_Flying ?_; refine p_call rfl rfl (hlog_Log_Flying_spec fly p hl (h.rf2)) ?_; rintro _ w ⟨(⟨rfl, hb⟩ | ⟨rfl, hb⟩), h⟩; exact absurd hb f2) | refine stP ?_ | (refine stC0_P15c ?_; rintro _ w ⟨rfl, h⟩) | (refine stC1_P15c ?_; rintro _ w ⟨(⟨rfl, hb⟩ | ⟨rfl, hb⟩), h⟩) | (refine p_cmp rfl rfl rfl rfl (fun hc => ?_) (fun hc => ?_) <;> simp only [cmpProp] at hc) | fail)
      exact x_ret' is_hlog_Log_grounded rfl ⟨by rw [← hi1]; rfl, h.pm4⟩
    · rw [if_neg hf, hn2] at hi1
      repeat' (first | contradiction | (refine p_val (dst := some 22) rfl (g_lkp (enc := encI) (v := p) (kv := nkv land) keyI rfl rfl (h.pick (by repeat first | exact .here | apply Has.there))) ?_; rw [hk, lkV_n, hln]) | (refine gC F.hlog_Log_Flying ?_; refine p_call rfl rfl (hlog_Log_Flying_spec fly p hl (h.rf2)) ?_; rintro _ w ⟨(⟨rfl, hb⟩ | ⟨rfl, hb⟩), h⟩; rotate_left; exact absurd ⟨hc, hb⟩ hf) | refine stP ?_ | (refine stC0_P15c ?_; rintro _ w ⟨rfl, h⟩) | (refine stC1_P15c ?_; rintro _ w ⟨(⟨rfl, hb⟩ | ⟨rfl, hb⟩), h⟩) | (refine p_cmp rfl rfl rfl rfl (fun hc => ?_) (fun hc => ?_) <;> simp only [cmpProp] at hc) | fail)
      all_goals exact x_keep [0, 1, 6] rfl (ih _ _ _ (by omega) ⟨p + 1, rfl, by omega, hi1, rfl, h.pm4⟩)
  · rw [show (most - p).toNat = 0 by omega, groundGo] at hi1
    repeat' (first | contradiction | refine stP ?_ | (refine stC0_P15c ?_; rintro _ w ⟨rfl, h⟩) | (refine stC1_P15c ?_; rintro _ w ⟨(⟨rfl, hb⟩ | ⟨rfl, hb⟩), h⟩) | (refine p_cmp rfl rfl rfl rfl (fun hc => ?_) (fun hc => ?_) <;> simp only [cmpProp] at hc) | fail)
    exact x_ret' is_hlog_Log_grounded rfl ⟨by rw [← hi1]; rfl, h.pm4⟩
end
end Go.Proofs.YtflbfdmmfoigaaaGreat
