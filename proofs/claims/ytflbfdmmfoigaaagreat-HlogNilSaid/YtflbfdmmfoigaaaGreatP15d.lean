/- Layer 15 (hlog): a page is flushed. -/
import Derived.Test.YtflbfdmmfoigaaaGreatHxS
import Derived.Test.YtflbfdmmfoigaaaGreatP15c
namespace Go.Proofs.YtflbfdmmfoigaaaGreat
open Go Go.HX
attribute [local irreducible] Ret XRun XOps XDr XOne Does Gives
set_option maxRecDepth 4000
set_option maxHeartbeats 1000000
theorem stC0_P15d {goal next : Prop} (k : next) (hs : Hid next → goal := by (intro k; (first | (refine gC F.marks_Set_At ?_; refine p_call rfl rfl (marks_Set_At_spec _ (h.rf1)) ?_) | (refine gC F.marks_Set_At ?_; refine p_call rfl rfl (marks_Set_At_nil _ h) ?_) | (refine gC F.hlog_Log_Flying ?_; refine p_call rfl rfl (hlog_Log_Flying_nil _ h) ?_) | (refine gC F.pages_Buffer_Page ?_; refine p_call rfl rfl (pages_Buffer_Page_nil _ h) ?_) | (refine gC F.device_Device_Write ?_; refine p_call rfl rfl (device_Device_Write_spec _ _ _ _ ?_ (h.rf4)) ?_; iterate 1 (first | assumption | omega | (simp only []; omega) | decide)) | (refine gC F.device_Device_Write ?_; refine p_call rfl rfl (device_Device_Write_nil _ _ _ h) ?_) | fail); exact k.out)) : goal := hs ⟨k⟩
theorem stC1_P15d {goal next : Prop} (k : next) (hs : Hid next → goal := by (intro k; (first | (refine gC F.hlog_Log_Flying ?_; refine p_call rfl rfl (hlog_Log_Flying_spec _ _ ?_ (h.rf2)) ?_; iterate 1 (first | assumption | omega | (simp only []; omega) | decide)) | fail); exact k.out)) : goal := hs ⟨k⟩
theorem stC2_P15d {goal next : Prop} (k : next) (hs : Hid next → goal := by (intro k; (first | (refine gC F.pages_Buffer_Page ?_; refine p_call rfl rfl (pages_Buffer_Page_spec _ ?_ ?_ _ (h.rf3)) ?_; iterate 2 (first | assumption | omega | (simp only []; omega) | decide)) | fail); exact k.out)) : goal := hs ⟨k⟩
def pageW (y : BufM) (p : Int) : List Int := (y.wr.ws.drop (y.frame p * sizeZ y.bits).toNat).take (sizeZ y.bits).toNat
instance (fly : NL) (p : Int) : Decidable (flyR fly p) := by unfold flyR; infer_instance
/-- Writes under way, and the device. -/
structure FlyM where
  fly : NL
  dev : DevM
def flushR (l : List Int) (y : BufM) (land : NL) (z : FlyM) (p : Int) : (Int × Int) × FlyM :=
  if p < 0 then ((0, 1), z)
  else if p < atM l 2 ∨ 0 < landN land p ∨ flyR z.fly p then ((0, 8), z)
  else if atM l 1 ≤ p then ((0, 13), z)
  else if ¬ y.has p then ((0, 7), z)
  else if (packR p (pageW y p)).2 ≠ 0 then ((0, (packR p (pageW y p)).2), z)
  else ((askR z.dev ⟨0, p, true, (packR p (pageW y p)).1⟩).1, ⟨if (askR z.dev ⟨0, p, true, (packR p (pageW y p)).1⟩).1.2 = 0 then putL (askR z.dev ⟨0, p, true, (packR p (pageW y p)).1⟩).1.1 p z.fly else z.fly, (askR z.dev ⟨0, p, true, (packR p (pageW y p)).1⟩).2⟩)
section
variable {S : SP} {w : World} {G : List HProp}
-- MACRO FAT(qd, qk) = (refine gC F.marks_Set_At ?_; refine p_call (dst := some qd) rfl rfl (marks_Set_At_spec qk (h.rf1)) ?_; rintro _ w ⟨rfl, h⟩)
-- MACRO FLY() = (refine gC F.hlog_Log_Flying ?_; refine p_call rfl rfl (hlog_Log_Flying_spec fly p hl (h.rf2)) ?_; rintro _ w ⟨(⟨rfl, hb⟩ | ⟨rfl, hb⟩), h⟩)
-- MACRO LKF() = (refine p_val (dst := some 30) rfl (g_lkp (enc := encI) (v := p) (kv := nkv land) keyI rfl rfl (h.pick (by repeat first | exact .here | apply Has.there))) ?_; rw [hk, lkV_n, hln])
set_option maxHeartbeats 16000000 in
theorem hlog_Log_Flush_spec {lg tb pb pc pd mk ep du dv fm lq bb jb ab : Nat} {l : List Int} {y : BufM} (land : NL) (z : FlyM) (p : Int) (hpp : -9223372036854775808 ≤ p ∧ p ≤ 9223372036854775807) (hok : BufOk y) (hdv : DevOk z.dev) (hl : z.fly.length ≤ 1000) (h : Sat S w (pt lg (.cells #[.pointer (some ⟨tb, 0, none⟩), .pointer (some ⟨pb, 0, none⟩), .pointer (some ⟨mk, 0, none⟩), .pointer (some ⟨ep, 0, none⟩), .pointer (some ⟨du, 0, none⟩), .pointer (some ⟨dv, 0, none⟩), .map (some fm), .map (some lq)] T.hlog_Log (0, 0)) :: isSet mk l :: isMap encI fm (nkv z.fly) :: isMap encI lq (nkv land) :: pt pb (.cells (bufC (y) pc pd) T.pages_Buffer (0, 0)) :: isRow pc (y).wr :: isRow pd (y).hr :: pt dv (.cells #[.bool (z.dev).off, .map (some bb), .map (some jb), .map (some ab), .int .i64 (z.dev).last] T.device_Device (0, 0)) :: isMap encB bb (bkv (z.dev).blks) :: isMap encI jb (jkv (z.dev).jobs) :: isMap encI ab (akv (z.dev).anss) :: G)) :
    Ret Tryz.prog F.hlog_Log_Flush #[.pointer (some ⟨lg, 0, none⟩), .int .i64 p] w (fun v w' => v = .tuple #[.int .i64 (flushR l y land z p).1.1, .int .i64 (flushR l y land z p).1.2] ∧ Sat S w' (pt lg (.cells #[.pointer (some ⟨tb, 0, none⟩), .pointer (some ⟨pb, 0, none⟩), .pointer (some ⟨mk, 0, none⟩), .pointer (some ⟨ep, 0, none⟩), .pointer (some ⟨du, 0, none⟩), .pointer (some ⟨dv, 0, none⟩), .map (some fm), .map (some lq)] T.hlog_Log (0, 0)) :: isSet mk l :: isMap encI fm (nkv (flushR l y land z p).2.fly) :: isMap encI lq (nkv land) :: pt pb (.cells (bufC (y) pc pd) T.pages_Buffer (0, 0)) :: isRow pc (y).wr :: isRow pd (y).hr :: pt dv (.cells #[.bool ((flushR l y land z p).2.dev).off, .map (some bb), .map (some jb), .map (some ab), .int .i64 ((flushR l y land z p).2.dev).last] T.device_Device (0, 0)) :: isMap encB bb (bkv ((flushR l y land z p).2.dev).blks) :: isMap encI jb (jkv ((flushR l y land z p).2.dev).jobs) :: isMap encI ab (akv ((flushR l y land z p).2.dev).anss) :: G)) := by
  obtain ⟨fly, dev⟩ := z
  dsimp only at hl hdv h
  have hk : kvGet p (nkv land) = _ := kvGet_F _ _ _
  have hln : (getL p land).getD 0 = landN land p := rfl
  unfold flushR
  dsimp only
  refine ret_of is_hlog_Log_Flush rfl ?_
  by_cases c1 : p < 0
  · rw [if_pos c1]
    repeat' (first | contradiction | refine stP ?_ | (refine stC0_P15d ?_; rintro _ w ⟨rfl, h⟩) | (refine stC1_P15d ?_; rintro _ w ⟨(⟨rfl, hb⟩ | ⟨rfl, hb⟩), h⟩) | (refine stC2_P15d ?_; rintro _ w ⟨u, rfl, h⟩) | (refine p_cmp rfl rfl rfl rfl (fun hc => ?_) (fun hc => ?_) <;> simp only [cmpProp] at hc) | fail)
    all_goals first | (exfalso; omega) | exact x_ret' is_hlog_Log_Flush rfl ⟨rfl, h⟩
  rw [if_neg c1]
  by_cases c2 : p < atM l 2 ∨ 0 < landN land p ∨ flyR fly p
  · rw [if_pos c2]
    repeat' (first | contradiction | (refine gC F.marks_Set_At ?_; refine p_call (dst := some 22) rfl rfl (marks_Set_At_spec 2 (h.rf1)) ?_; rintro _ w ⟨rfl, h⟩) | (refine p_val (dst := some 30) rfl (g_lkp (enc := encI) (v := p) (kv := nkv land) keyI rfl rfl (h.pick (by repeat first | exact .here | apply Has.there))) ?_; rw [hk, lkV_n, hln]) | (refine gC F.hlog_Log_Flying ?_; refine p_call rfl rfl (hlog_Log_Flying_spec fly p hl (h.rf2)) ?_; rintro _ w ⟨(⟨rfl, hb⟩ | ⟨rfl, hb⟩), h⟩) | (refine gC F.marks_Set_At ?_; refine p_call (dst := some 44) rfl rfl (marks_Set_At_spec 1 (h.rf1)) ?_; rintro _ w ⟨rfl, h⟩) | refine stP ?_ | (refine stC0_P15d ?_; rintro _ w ⟨rfl, h⟩) | (refine stC1_P15d ?_; rintro _ w ⟨(⟨rfl, hb⟩ | ⟨rfl, hb⟩), h⟩) | (refine stC2_P15d ?_; rintro _ w ⟨u, rfl, h⟩) | (refine p_cmp rfl rfl rfl rfl (fun hc => ?_) (fun hc => ?_) <;> simp only [cmpProp] at hc) | fail)
    all_goals first | (exfalso; omega) | exact x_ret' is_hlog_Log_Flush rfl ⟨rfl, h.sub (.cons (by repeat first | exact .here | apply Has.there) (.cons (by repeat first | exact .here | apply Has.there) (.cons (by repeat first | exact .here | apply Has.there) (.cons (by repeat first | exact .here | apply Has.there) (.cons (by repeat first | exact .here | apply Has.there) (.cons (by repeat first | exact .here | apply Has.there) (.cons (by repeat first | exact .here | apply Has.there) (.cons (by repeat first | exact .here | apply Has.there) (.cons (by repeat first | exact .here | apply Has.there) (.cons (by repeat first | exact .here | apply Has.there) (.cons (by repeat first | exact .here | apply Has.there) (by repeat first | exact .refl _ | apply Sub.skip))))))))))))⟩ | exact absurd c2 (fun c => c.elim (fun c => by omega) (fun c => c.elim (fun c => by omega) hb))
  rw [if_neg c2]
  have c21 : ¬ p < atM l 2 := fun e => c2 (.inl e)
  have c22 : ¬ 0 < landN land p := fun e => c2 (.inr (.inl e))
  have c23 : ¬ flyR fly p := fun e => c2 (.inr (.inr e))
  by_cases c3 : atM l 1 ≤ p
  · rw [if_pos c3]
    repeat' (first | contradiction | (refine gC F.marks_Set_At ?_; refine p_call (dst := some 22) rfl rfl (marks_Set_At_spec 2 (h.rf1)) ?_; rintro _ w ⟨rfl, h⟩) | (refine p_val (dst := some 30) rfl (g_lkp (enc := encI) (v := p) (kv := nkv land) keyI rfl rfl (h.pick (by repeat first | exact .here | apply Has.there))) ?_; rw [hk, lkV_n, hln]) | ((refine gC F.hlog_Log_Flying ?_; refine p_call rfl rfl (hlog_Log_Flying_spec fly p hl (h.rf2)) ?_; rintro _ w ⟨(⟨rfl, hb⟩ | ⟨rfl, hb⟩), h⟩); exact absurd hb c23) | (refine gC F.marks_Set_At ?_; refine p_call (dst := some 44) rfl rfl (marks_Set_At_spec 1 (h.rf1)) ?_; rintro _ w ⟨rfl, h⟩) | refine stP ?_ | (refine stC0_P15d ?_; rintro _ w ⟨rfl, h⟩) | (refine stC1_P15d ?_; rintro _ w ⟨(⟨rfl, hb⟩ | ⟨rfl, hb⟩), h⟩) | (refine stC2_P15d ?_; rintro _ w ⟨u, rfl, h⟩) | (refine p_cmp rfl rfl rfl rfl (fun hc => ?_) (fun hc => ?_) <;> simp only [cmpProp] at hc) | fail)
    all_goals first | (exfalso; omega) | exact x_ret' is_hlog_Log_Flush rfl ⟨rfl, h.sub (.cons (by repeat first | exact .here | apply Has.there) (.cons (by repeat first | exact .here | apply Has.there) (.cons (by repeat first | exact .here | apply Has.there) (.cons (by repeat first | exact .here | apply Has.there) (.cons (by repeat first | exact .here | apply Has.there) (.cons (by repeat first | exact .here | apply Has.there) (.cons (by repeat first | exact .here | apply Has.there) (.cons (by repeat first | exact .here | apply Has.there) (.cons (by repeat first | exact .here | apply Has.there) (.cons (by repeat first | exact .here | apply Has.there) (.cons (by repeat first | exact .here | apply Has.there) (by repeat first | exact .refl _ | apply Sub.skip))))))))))))⟩
  rw [if_neg c3]
  obtain ⟨hwok, _⟩ := isRow_open (h.pick (.there (.there (.there (.there (.there .here))))))
  have hpb : ∀ i, 0 ≤ (pageW y p).getD i 0 ∧ (pageW y p).getD i 0 ≤ 18446744073709551615 := fun i => by
    rw [List.getD_eq_getElem?_getD]
    cases hg : (pageW y p)[i]? with
    | none => exact ⟨by decide, by decide⟩
    | some u => exact hwok.1.2.2 u (List.mem_of_mem_drop (List.mem_of_mem_take (List.mem_of_getElem? hg)))
  have hpl : (pageW y p).length ≤ 1000 := by
    have h1 := size_cases y.bits
    have h2 := hok.bits
    unfold pageW
    rw [List.length_take]
    omega
  by_cases c4 : ¬ y.has p
  · rw [if_pos c4]
    repeat' (first | contradiction | (refine gC F.marks_Set_At ?_; refine p_call (dst := some 22) rfl rfl (marks_Set_At_spec 2 (h.rf1)) ?_; rintro _ w ⟨rfl, h⟩) | (refine p_val (dst := some 30) rfl (g_lkp (enc := encI) (v := p) (kv := nkv land) keyI rfl rfl (h.pick (by repeat first | exact .here | apply Has.there))) ?_; rw [hk, lkV_n, hln]) | ((refine gC F.hlog_Log_Flying ?_; refine p_call rfl rfl (hlog_Log_Flying_spec fly p hl (h.rf2)) ?_; rintro _ w ⟨(⟨rfl, hb⟩ | ⟨rfl, hb⟩), h⟩); exact absurd hb c23) | (refine gC F.marks_Set_At ?_; refine p_call (dst := some 44) rfl rfl (marks_Set_At_spec 1 (h.rf1)) ?_; rintro _ w ⟨rfl, h⟩) | (refine gC F.pages_Buffer_Page ?_; refine p_call rfl rfl (pages_Buffer_Page_out (x := y) p hpp.2 hok c4 (h.rf3)) ?_; rintro _ w ⟨rfl, h⟩) | refine stP ?_ | (refine stC0_P15d ?_; rintro _ w ⟨rfl, h⟩) | (refine stC1_P15d ?_; rintro _ w ⟨(⟨rfl, hb⟩ | ⟨rfl, hb⟩), h⟩) | (refine stC2_P15d ?_; rintro _ w ⟨u, rfl, h⟩) | (refine p_cmp rfl rfl rfl rfl (fun hc => ?_) (fun hc => ?_) <;> simp only [cmpProp] at hc) | fail)
    all_goals first | (exfalso; omega) | exact x_ret' is_hlog_Log_Flush rfl ⟨rfl, h.sub (.cons (by repeat first | exact .here | apply Has.there) (.cons (by repeat first | exact .here | apply Has.there) (.cons (by repeat first | exact .here | apply Has.there) (.cons (by repeat first | exact .here | apply Has.there) (.cons (by repeat first | exact .here | apply Has.there) (.cons (by repeat first | exact .here | apply Has.there) (.cons (by repeat first | exact .here | apply Has.there) (.cons (by repeat first | exact .here | apply Has.there) (.cons (by repeat first | exact .here | apply Has.there) (.cons (by repeat first | exact .here | apply Has.there) (.cons (by repeat first | exact .here | apply Has.there) (by repeat first | exact .refl _ | apply Sub.skip))))))))))))⟩
  rw [if_neg c4]
  have c5 : y.has p := Classical.not_not.1 c4
  generalize hP : packR p (pageW y p) = P
  obtain ⟨s, pe⟩ := P
  dsimp only
  by_cases c6 : pe ≠ 0
  · rw [if_pos c6]
    repeat' (first | contradiction | (refine gC F.marks_Set_At ?_; refine p_call (dst := some 22) rfl rfl (marks_Set_At_spec 2 (h.rf1)) ?_; rintro _ w ⟨rfl, h⟩) | (refine p_val (dst := some 30) rfl (g_lkp (enc := encI) (v := p) (kv := nkv land) keyI rfl rfl (h.pick (by repeat first | exact .here | apply Has.there))) ?_; rw [hk, lkV_n, hln]) | ((refine gC F.hlog_Log_Flying ?_; refine p_call rfl rfl (hlog_Log_Flying_spec fly p hl (h.rf2)) ?_; rintro _ w ⟨(⟨rfl, hb⟩ | ⟨rfl, hb⟩), h⟩); exact absurd hb c23) | (refine gC F.marks_Set_At ?_; refine p_call (dst := some 44) rfl rfl (marks_Set_At_spec 1 (h.rf1)) ?_; rintro _ w ⟨rfl, h⟩) | (refine gC F.pages_Buffer_Page ?_; refine p_call rfl rfl (pages_Buffer_Page_spec (x := y) p hpp.2 hok c5 (h.rf3)) ?_; rintro _ w ⟨u, rfl, h⟩) | (refine gC F.frame_Pack ?_; refine p_call rfl rfl (frame_Pack_spec p (pageW y p) hpl hpb (fun w h => ownS_rd h .here) h) ?_; rw [hP]; rintro _ w ⟨rfl, h⟩) | refine stP ?_ | (refine stC0_P15d ?_; rintro _ w ⟨rfl, h⟩) | (refine stC1_P15d ?_; rintro _ w ⟨(⟨rfl, hb⟩ | ⟨rfl, hb⟩), h⟩) | (refine stC2_P15d ?_; rintro _ w ⟨u, rfl, h⟩) | (refine p_cmp rfl rfl rfl rfl (fun hc => ?_) (fun hc => ?_) <;> simp only [cmpProp] at hc) | fail)
    all_goals first | (exfalso; omega) | exact x_ret' is_hlog_Log_Flush rfl ⟨rfl, h.sub (.cons (by repeat first | exact .here | apply Has.there) (.cons (by repeat first | exact .here | apply Has.there) (.cons (by repeat first | exact .here | apply Has.there) (.cons (by repeat first | exact .here | apply Has.there) (.cons (by repeat first | exact .here | apply Has.there) (.cons (by repeat first | exact .here | apply Has.there) (.cons (by repeat first | exact .here | apply Has.there) (.cons (by repeat first | exact .here | apply Has.there) (.cons (by repeat first | exact .here | apply Has.there) (.cons (by repeat first | exact .here | apply Has.there) (.cons (by repeat first | exact .here | apply Has.there) (by repeat first | exact .refl _ | apply Sub.skip))))))))))))⟩
  · obtain rfl : pe = 0 := by omega
    rw [if_neg c6]
    generalize hA : askR dev ⟨0, p, true, s⟩ = A
    obtain ⟨⟨tk, er⟩, dev'⟩ := A
    dsimp only
    repeat' (first | contradiction | (refine gC F.marks_Set_At ?_; refine p_call (dst := some 22) rfl rfl (marks_Set_At_spec 2 (h.rf1)) ?_; rintro _ w ⟨rfl, h⟩) | (refine p_val (dst := some 30) rfl (g_lkp (enc := encI) (v := p) (kv := nkv land) keyI rfl rfl (h.pick (by repeat first | exact .here | apply Has.there))) ?_; rw [hk, lkV_n, hln]) | ((refine gC F.hlog_Log_Flying ?_; refine p_call rfl rfl (hlog_Log_Flying_spec fly p hl (h.rf2)) ?_; rintro _ w ⟨(⟨rfl, hb⟩ | ⟨rfl, hb⟩), h⟩); exact absurd hb c23) | (refine gC F.marks_Set_At ?_; refine p_call (dst := some 44) rfl rfl (marks_Set_At_spec 1 (h.rf1)) ?_; rintro _ w ⟨rfl, h⟩) | (refine gC F.pages_Buffer_Page ?_; refine p_call rfl rfl (pages_Buffer_Page_spec (x := y) p hpp.2 hok c5 (h.rf3)) ?_; rintro _ w ⟨u, rfl, h⟩) | (refine gC F.frame_Pack ?_; refine p_call rfl rfl (frame_Pack_spec p (pageW y p) hpl hpb (fun w h => ownS_rd h .here) h) ?_; rw [hP]; rintro _ w ⟨rfl, h⟩) | (refine gC F.device_Device_Write ?_; refine p_call rfl rfl (device_Device_Write_spec dev 0 p s hdv (h.rf4)) ?_; rw [hA]; rintro _ w ⟨rfl, h⟩) | (refine p_do rfl (d_mup (enc := encI) (v := tk) (uv := .int .i64 p) (kv := nkv fly) keyI rfl rfl rfl (h.pick (by repeat first | exact .here | apply Has.there))) ?_; rintro _ w ⟨rfl, h⟩) | refine stP ?_ | (refine stC0_P15d ?_; rintro _ w ⟨rfl, h⟩) | (refine stC1_P15d ?_; rintro _ w ⟨(⟨rfl, hb⟩ | ⟨rfl, hb⟩), h⟩) | (refine stC2_P15d ?_; rintro _ w ⟨u, rfl, h⟩) | (refine p_cmp rfl rfl rfl rfl (fun hc => ?_) (fun hc => ?_) <;> simp only [cmpProp] at hc) | fail)
    · rw [show kvPut tk (Value.int .i64 p) (nkv fly) = nkv (putL tk p fly) from kvPut_F (fun n => Value.int .i64 n) tk p fly] at h
      rw [if_pos hc]
      exact x_ret' is_hlog_Log_Flush rfl ⟨rfl, h.sub (.cons (by repeat first | exact .here | apply Has.there) (.cons (by repeat first | exact .here | apply Has.there) (.cons (by repeat first | exact .here | apply Has.there) (.cons (by repeat first | exact .here | apply Has.there) (.cons (by repeat first | exact .here | apply Has.there) (.cons (by repeat first | exact .here | apply Has.there) (.cons (by repeat first | exact .here | apply Has.there) (.cons (by repeat first | exact .here | apply Has.there) (.cons (by repeat first | exact .here | apply Has.there) (.cons (by repeat first | exact .here | apply Has.there) (.cons (by repeat first | exact .here | apply Has.there) (by repeat first | exact .refl _ | apply Sub.skip))))))))))))⟩
    · rw [if_neg hc]
      exact x_ret' is_hlog_Log_Flush rfl ⟨rfl, h.sub (.cons (by repeat first | exact .here | apply Has.there) (.cons (by repeat first | exact .here | apply Has.there) (.cons (by repeat first | exact .here | apply Has.there) (.cons (by repeat first | exact .here | apply Has.there) (.cons (by repeat first | exact .here | apply Has.there) (.cons (by repeat first | exact .here | apply Has.there) (.cons (by repeat first | exact .here | apply Has.there) (.cons (by repeat first | exact .here | apply Has.there) (.cons (by repeat first | exact .here | apply Has.there) (.cons (by repeat first | exact .here | apply Has.there) (.cons (by repeat first | exact .here | apply Has.there) (by repeat first | exact .refl _ | apply Sub.skip))))))))))))⟩
end
end Go.Proofs.YtflbfdmmfoigaaaGreat
