/- Layer 11 (device): writes, reads, what is done and taken; a device that is not there. -/
import Derived.Test.YtflbfdmmfoigaaaGreatHxS
import Derived.Test.YtflbfdmmfoigaaaGreatP11
namespace Go.Proofs.YtflbfdmmfoigaaaGreat
open Go Go.HX
attribute [local irreducible] Ret XRun XOps XDr XOne Does Gives
set_option maxRecDepth 4000
set_option maxHeartbeats 1000000
theorem stC0_P11b {goal next : Prop} (k : next) (hs : Hid next → goal := by (intro k; (first | (refine gC F.device_Device_ask ?_; refine p_call rfl rfl (device_Device_ask_spec _ _ ?_ (h.rf4)) ?_; iterate 1 (first | assumption | omega | (simp only []; omega) | decide)) | (refine gC F.device_Device_ask ?_; refine p_call rfl rfl (device_Device_ask_nil _ h) ?_) | (refine gC F.device_Device_power ?_; refine p_call rfl rfl (device_Device_power_spec (h.rf1)) ?_) | (refine gC F.device_Device_power ?_; refine p_call rfl rfl (device_Device_power_nil h) ?_) | (refine gS ?_; (first | refine p_do rfl (d_stwL rfl rfl rfl rfl rfl (h.pick (by repeat first | exact .here | apply Has.there)) (by first | (dsimp only [Value.cells]; done) | exact rfl)) ?_ | refine p_do rfl (d_stL rfl rfl rfl (h.pick (by repeat first | exact .here | apply Has.there)) (by first | exact of_decide_eq_true rfl | simp) (by first | (dsimp only [List.set]; done) | exact rfl)) ?_)) | fail); exact k.out)) : goal := hs ⟨k⟩
theorem stC1_P11b {goal next : Prop} (k : next) (hs : Hid next → goal := by (intro k; (first | (refine gBx ?_; refine p_do rfl (d_boxL rfl h (by first | (dsimp only [Value.cells]; done) | exact rfl)) ?_) | (refine gN ?_; refine p_do rfl (d_newL h (by first | (dsimp only [Value.cells]; done) | exact rfl)) ?_) | fail); exact k.out)) : goal := hs ⟨k⟩
theorem stC2_P11b {goal next : Prop} (k : next) (hs : Hid next → goal := by (intro k; (first | (refine gC F.device_may ?_; refine p_call rfl rfl (device_may_spec _ _ h) ?_) | fail); exact k.out)) : goal := hs ⟨k⟩
theorem stC3_P11b {goal next : Prop} (k : next) (hs : Hid next → goal := by (intro k; (first | (refine gC F.maps_Values_map_int_device_job_int_device_job ?_; refine p_call rfl rfl (maps_Values_map_int_device_job_int_device_job_spec _ (h.rf1)) ?_) | fail); exact k.out)) : goal := hs ⟨k⟩
theorem stC4_P11b {goal next : Prop} (k : next) (hs : Hid next → goal := by (intro k; (first | (refine gC F.slices_Collect_device_job ?_; refine p_call rfl rfl (slices_Collect_device_job_spec _ ?_ (h.rf2)) ?_; iterate 1 (first | assumption | omega | (simp only []; omega) | decide)) | fail); exact k.out)) : goal := hs ⟨k⟩
def doR (x : DevM) (t : Int) : Int × DevM :=
  if x.off = true then (6, x) else match getL t x.jobs with
    | none => (7, x)
    | some j => (0, { x with jobs := delL t x.jobs, blks := (if j.wr = true then putL (j.area, j.no) j.data x.blks else x.blks), anss := putL t (if j.wr = true then ⟨⟨#[]⟩, false⟩ else ⟨(getL (j.area, j.no) x.blks).getD ⟨#[]⟩, (getL (j.area, j.no) x.blks).isNone⟩) x.anss })
def takeR (x : DevM) (t : Int) : (ByteArray × Int) × DevM :=
  if x.off = true then ((⟨#[]⟩, 6), x) else match getL t x.jobs with
    | some _ => ((⟨#[]⟩, 10), x)
    | none => match getL t x.anss with
      | none => ((⟨#[]⟩, 7), { x with anss := delL t x.anss })
      | some a => if a.no = true then ((⟨#[]⟩, 7), { x with anss := delL t x.anss }) else ((a.data, 0), { x with anss := delL t x.anss })
def startR (x : DevM) : Int × DevM := if x.off = true then (0, { x with off := false }) else (10, x)
section
variable {S : SP} {w : World} {G : List HProp}

theorem device_Device_Write_spec {d bb jb ab : Nat} (x : DevM) (a n : Int) (s : ByteArray) (hx : DevOk x) (h : Sat S w (pt d (.cells #[.bool (x).off, .map (some bb), .map (some jb), .map (some ab), .int .i64 (x).last] T.device_Device (0, 0)) :: isMap encB bb (bkv (x).blks) :: isMap encI jb (jkv (x).jobs) :: isMap encI ab (akv (x).anss) :: G)) : Ret Tryz.prog F.device_Device_Write #[.pointer (some ⟨d, 0, none⟩), .agg #[.int .i64 a, .int .i64 n], .string s] w (fun v w' => v = .tuple #[.int .i64 (askR x ⟨a, n, true, s⟩).1.1, .int .i64 (askR x ⟨a, n, true, s⟩).1.2] ∧ Sat S w' (pt d (.cells #[.bool ((askR x ⟨a, n, true, s⟩).2).off, .map (some bb), .map (some jb), .map (some ab), .int .i64 ((askR x ⟨a, n, true, s⟩).2).last] T.device_Device (0, 0)) :: isMap encB bb (bkv ((askR x ⟨a, n, true, s⟩).2).blks) :: isMap encI jb (jkv ((askR x ⟨a, n, true, s⟩).2).jobs) :: isMap encI ab (akv ((askR x ⟨a, n, true, s⟩).2).anss) :: G)) := by
  refine ret_of is_device_Device_Write rfl ?_
  repeat' (first | (refine gC F.device_Device_ask ?_; refine p_call rfl rfl (device_Device_ask_spec x ⟨a, n, true, s⟩ hx (h.rf4)) ?_; rintro _ w ⟨rfl, h⟩) | refine stP ?_ | (refine stC0_P11b ?_; rintro _ w ⟨rfl, h⟩) | (refine stC1_P11b ?_; rintro _ w ⟨bx, rfl, h⟩) | fail)
  exact x_ret' is_device_Device_Write rfl ⟨rfl, h.pm4⟩


set_option maxHeartbeats 8000000 in
theorem device_Device_Do_spec {d bb jb ab : Nat} (x : DevM) (t : Int) (h : Sat S w (pt d (.cells #[.bool (x).off, .map (some bb), .map (some jb), .map (some ab), .int .i64 (x).last] T.device_Device (0, 0)) :: isMap encB bb (bkv (x).blks) :: isMap encI jb (jkv (x).jobs) :: isMap encI ab (akv (x).anss) :: G)) : Ret Tryz.prog F.device_Device_Do #[.pointer (some ⟨d, 0, none⟩), .int .i64 t] w (fun v w' => v = .int .i64 (doR x t).1 ∧ Sat S w' (pt d (.cells #[.bool ((doR x t).2).off, .map (some bb), .map (some jb), .map (some ab), .int .i64 ((doR x t).2).last] T.device_Device (0, 0)) :: isMap encB bb (bkv ((doR x t).2).blks) :: isMap encI jb (jkv ((doR x t).2).jobs) :: isMap encI ab (akv ((doR x t).2).anss) :: G)) := by
  obtain ⟨off, blks, jobs, anss, last⟩ := x
  refine ret_of is_device_Device_Do rfl ?_
  unfold doR
  cases off
  · dsimp only at h ⊢
    rw [if_neg (by simp)]
    have hj : kvGet t (jkv jobs) = _ := kvGet_F _ _ _
    cases hg : getL t jobs with
    | none =>
      rw [hg] at hj
      repeat' (first | contradiction | (refine p_val (dst := some 22) rfl (g_lkp (enc := encI) (v := t) (kv := jkv jobs) keyI rfl rfl (h.pick (by repeat first | exact .here | apply Has.there))) ?_; rw [hj]) | refine stP ?_ | (refine stC0_P11b ?_; rintro _ w ⟨rfl, h⟩) | (refine stC1_P11b ?_; rintro _ w ⟨bx, rfl, h⟩) | (refine p_cmp rfl rfl rfl rfl (fun hc => ?_) (fun hc => ?_) <;> simp only [cmpProp] at hc) | (refine r_cmp rfl rfl rfl rfl rfl (fun hc => ?_) (fun hc => ?_) <;> simp only [cmpProp] at hc) | (refine x_drawn rfl ?_; have h := h.drew) | refine x_drawn rfl ?_ | fail)
      exact x_ret' is_device_Device_Do rfl ⟨rfl, h.pm4⟩
    | some j =>
      rw [hg] at hj
      obtain ⟨ja, jn, jw, jd⟩ := j
      have hj : kvGet t (jkv jobs) = some (.agg #[.int .i64 ja, .int .i64 jn, .bool jw, .string jd]) := hj
      dsimp only
      cases hjw : jw
      · simp only [Bool.false_eq_true, reduceIte]
        have hk : kvGet (ja, jn) (bkv blks) = _ := kvGet_F _ _ _
        cases hb : getL (ja, jn) blks with
        | none =>
          rw [hb] at hk
          rw [hjw] at hj
          repeat' (first | contradiction | (refine p_val (dst := some 22) rfl (g_lkp (enc := encI) (v := t) (kv := jkv jobs) keyI rfl rfl (h.pick (by repeat first | exact .here | apply Has.there))) ?_; rw [hj]) | (refine p_val (dst := some 23) rfl (v := .agg #[.int .i64 ja, .int .i64 jn, .bool _, .string jd]) (gives_pure rfl) ?_) | (refine p_do rfl (d_del (enc := encI) (v := t) (kv := jkv jobs) keyI rfl rfl (h.pick (by repeat first | exact .here | apply Has.there))) ?_; intro _ w h) | (refine r_own rfl rfl rfl h (fun w h => g_ldq (vs := [_, _]) rfl (h.at (by repeat first | exact .here | apply Has.there)) rfl rfl) ?_) | (refine r_own rfl rfl rfl h (fun w h => g_lkp (enc := encB) (v := (ja, jn)) keyB rfl rfl (h.pick (by repeat first | exact .here | apply Has.there))) ?_; rw [hk]) | (refine r_pure (d := some 50) rfl rfl rfl (v := .string ⟨#[]⟩) (fun _ => gives_pure rfl) ?_) | (refine r_pure (d := some 51) rfl rfl rfl (v := .bool false) (fun _ => gives_pure rfl) ?_) | (refine r_do rfl rfl (d_mup (enc := encI) (v := t) (uv := ansV ⟨⟨#[]⟩, true⟩) (kv := akv anss) keyI rfl rfl rfl (h.pick (by repeat first | exact .here | apply Has.there))) ?_; rintro _ w ⟨rfl, h⟩; refine nowa ?_) | refine stP ?_ | (refine stC0_P11b ?_; rintro _ w ⟨rfl, h⟩) | (refine stC1_P11b ?_; rintro _ w ⟨bx, rfl, h⟩) | (refine p_cmp rfl rfl rfl rfl (fun hc => ?_) (fun hc => ?_) <;> simp only [cmpProp] at hc) | (refine r_cmp rfl rfl rfl rfl rfl (fun hc => ?_) (fun hc => ?_) <;> simp only [cmpProp] at hc) | (refine x_drawn rfl ?_; have h := h.drew) | refine x_drawn rfl ?_ | fail)
          unfold akv at h
          rw [jkv_F, kvDel_F, ← jkv_F, kvPut_F] at h
          exact x_ret' is_device_Device_Do rfl ⟨rfl, h.pm4⟩
        | some s =>
          rw [hb] at hk
          rw [hjw] at hj
          repeat' (first | contradiction | (refine p_val (dst := some 22) rfl (g_lkp (enc := encI) (v := t) (kv := jkv jobs) keyI rfl rfl (h.pick (by repeat first | exact .here | apply Has.there))) ?_; rw [hj]) | (refine p_val (dst := some 23) rfl (v := .agg #[.int .i64 ja, .int .i64 jn, .bool _, .string jd]) (gives_pure rfl) ?_) | (refine p_do rfl (d_del (enc := encI) (v := t) (kv := jkv jobs) keyI rfl rfl (h.pick (by repeat first | exact .here | apply Has.there))) ?_; intro _ w h) | (refine r_own rfl rfl rfl h (fun w h => g_ldq (vs := [_, _]) rfl (h.at (by repeat first | exact .here | apply Has.there)) rfl rfl) ?_) | (refine r_own rfl rfl rfl h (fun w h => g_lkp (enc := encB) (v := (ja, jn)) keyB rfl rfl (h.pick (by repeat first | exact .here | apply Has.there))) ?_; rw [hk]) | (refine r_pure (d := some 50) rfl rfl rfl (v := .string s) (fun _ => gives_pure rfl) ?_) | (refine r_pure (d := some 51) rfl rfl rfl (v := .bool true) (fun _ => gives_pure rfl) ?_) | (refine r_do rfl rfl (d_mup (enc := encI) (v := t) (uv := ansV ⟨s, false⟩) (kv := akv anss) keyI rfl rfl rfl (h.pick (by repeat first | exact .here | apply Has.there))) ?_; rintro _ w ⟨rfl, h⟩; refine nowa ?_) | refine stP ?_ | (refine stC0_P11b ?_; rintro _ w ⟨rfl, h⟩) | (refine stC1_P11b ?_; rintro _ w ⟨bx, rfl, h⟩) | (refine p_cmp rfl rfl rfl rfl (fun hc => ?_) (fun hc => ?_) <;> simp only [cmpProp] at hc) | (refine r_cmp rfl rfl rfl rfl rfl (fun hc => ?_) (fun hc => ?_) <;> simp only [cmpProp] at hc) | (refine x_drawn rfl ?_; have h := h.drew) | refine x_drawn rfl ?_ | fail)
          unfold akv at h
          rw [jkv_F, kvDel_F, ← jkv_F, kvPut_F] at h
          exact x_ret' is_device_Device_Do rfl ⟨rfl, h.pm4⟩
      · simp only [reduceIte]
        rw [hjw] at hj
        repeat' (first | contradiction | (refine p_val (dst := some 22) rfl (g_lkp (enc := encI) (v := t) (kv := jkv jobs) keyI rfl rfl (h.pick (by repeat first | exact .here | apply Has.there))) ?_; rw [hj]) | (refine p_val (dst := some 23) rfl (v := .agg #[.int .i64 ja, .int .i64 jn, .bool _, .string jd]) (gives_pure rfl) ?_) | (refine p_do rfl (d_del (enc := encI) (v := t) (kv := jkv jobs) keyI rfl rfl (h.pick (by repeat first | exact .here | apply Has.there))) ?_; intro _ w h) | (refine r_own rfl rfl rfl h (fun w h => g_ldq (vs := [_, _]) rfl (h.at (by repeat first | exact .here | apply Has.there)) rfl rfl) ?_) | (refine r_do rfl rfl (d_mup (enc := encB) (v := (ja, jn)) (uv := .string jd) (kv := bkv blks) keyB rfl rfl rfl (h.pick (by repeat first | exact .here | apply Has.there))) ?_; rintro _ w ⟨rfl, h⟩; refine nowa ?_) | (refine r_do rfl rfl (d_mup (enc := encI) (v := t) (uv := ansV ⟨⟨#[]⟩, false⟩) (kv := akv anss) keyI rfl rfl rfl (h.pick (by repeat first | exact .here | apply Has.there))) ?_; rintro _ w ⟨rfl, h⟩; refine nowa ?_) | refine stP ?_ | (refine stC0_P11b ?_; rintro _ w ⟨rfl, h⟩) | (refine stC1_P11b ?_; rintro _ w ⟨bx, rfl, h⟩) | (refine p_cmp rfl rfl rfl rfl (fun hc => ?_) (fun hc => ?_) <;> simp only [cmpProp] at hc) | (refine r_cmp rfl rfl rfl rfl rfl (fun hc => ?_) (fun hc => ?_) <;> simp only [cmpProp] at hc) | (refine x_drawn rfl ?_; have h := h.drew) | refine x_drawn rfl ?_ | fail)
        unfold akv bkv at h
        rw [jkv_F, kvDel_F, ← jkv_F, kvPut_F, kvPut_F] at h
        exact x_ret' is_device_Device_Do rfl ⟨rfl, h.pm4⟩
  · dsimp only at h ⊢
    rw [if_pos rfl]
    repeat' (first | contradiction | (refine gC F.device_Device_power ?_; refine p_call rfl rfl (device_Device_power_off (h.rf1)) ?_; rintro _ w ⟨rfl, h⟩) | refine stP ?_ | (refine stC0_P11b ?_; rintro _ w ⟨rfl, h⟩) | (refine stC1_P11b ?_; rintro _ w ⟨bx, rfl, h⟩) | (refine p_cmp rfl rfl rfl rfl (fun hc => ?_) (fun hc => ?_) <;> simp only [cmpProp] at hc) | (refine r_cmp rfl rfl rfl rfl rfl (fun hc => ?_) (fun hc => ?_) <;> simp only [cmpProp] at hc) | (refine x_drawn rfl ?_; have h := h.drew) | refine x_drawn rfl ?_ | fail)
    exact x_ret' is_device_Device_Do rfl ⟨rfl, h.pm4⟩

set_option maxHeartbeats 8000000 in
theorem device_Device_Take_spec {d bb jb ab : Nat} (x : DevM) (t : Int) (h : Sat S w (pt d (.cells #[.bool (x).off, .map (some bb), .map (some jb), .map (some ab), .int .i64 (x).last] T.device_Device (0, 0)) :: isMap encB bb (bkv (x).blks) :: isMap encI jb (jkv (x).jobs) :: isMap encI ab (akv (x).anss) :: G)) : Ret Tryz.prog F.device_Device_Take #[.pointer (some ⟨d, 0, none⟩), .int .i64 t] w (fun v w' => v = .tuple #[.string (takeR x t).1.1, .int .i64 (takeR x t).1.2] ∧ Sat S w' (pt d (.cells #[.bool ((takeR x t).2).off, .map (some bb), .map (some jb), .map (some ab), .int .i64 ((takeR x t).2).last] T.device_Device (0, 0)) :: isMap encB bb (bkv ((takeR x t).2).blks) :: isMap encI jb (jkv ((takeR x t).2).jobs) :: isMap encI ab (akv ((takeR x t).2).anss) :: G)) := by
  obtain ⟨off, blks, jobs, anss, last⟩ := x
  refine ret_of is_device_Device_Take rfl ?_
  unfold takeR
  cases off
  · dsimp only at h ⊢
    rw [if_neg (by simp)]
    have hj : kvGet t (jkv jobs) = _ := kvGet_F _ _ _
    cases hg : getL t jobs with
    | some j =>
      rw [hg] at hj
      obtain ⟨ja, jn, jw, jd⟩ := j
      have hj : kvGet t (jkv jobs) = some (.agg #[.int .i64 ja, .int .i64 jn, .bool jw, .string jd]) := hj
      dsimp only
      repeat' (first | contradiction | (refine p_val (dst := some 22) rfl (g_lkp (enc := encI) (v := t) (kv := jkv jobs) keyI rfl rfl (h.pick (by repeat first | exact .here | apply Has.there))) ?_; rw [hj]) | (refine p_val (dst := some 23) rfl (v := .agg #[.int .i64 ja, .int .i64 jn, .bool _, .string jd]) (gives_pure rfl) ?_) | refine stP ?_ | (refine stC0_P11b ?_; rintro _ w ⟨rfl, h⟩) | (refine stC1_P11b ?_; rintro _ w ⟨bx, rfl, h⟩) | (refine p_cmp rfl rfl rfl rfl (fun hc => ?_) (fun hc => ?_) <;> simp only [cmpProp] at hc) | fail)
      exact x_ret' is_device_Device_Take rfl ⟨rfl, h.pm4⟩
    | none =>
      rw [hg] at hj
      have ha : kvGet t (akv anss) = _ := kvGet_F _ _ _
      dsimp only
      cases hb : getL t anss with
      | none =>
        rw [hb] at ha
        dsimp only
        repeat' (first | contradiction | (refine p_val (dst := some 22) rfl (g_lkp (enc := encI) (v := t) (kv := jkv jobs) keyI rfl rfl (h.pick (by repeat first | exact .here | apply Has.there))) ?_; rw [hj]) | (refine p_val (dst := some 32) rfl (g_lkp (enc := encI) (v := t) (kv := akv anss) keyI rfl rfl (h.pick (by repeat first | exact .here | apply Has.there))) ?_; rw [ha]) | (refine p_val (dst := some 23) rfl (v := .agg #[.int .i64 0, .int .i64 0, .bool false, .string ⟨#[]⟩]) (gives_pure rfl) ?_) | (refine p_val (dst := some 33) rfl (v := .agg #[.string ⟨#[]⟩, .bool false]) (gives_pure rfl) ?_) | (refine p_do rfl (d_del (enc := encI) (v := t) (kv := akv anss) keyI rfl rfl (h.pick (by repeat first | exact .here | apply Has.there))) ?_; intro _ w h) | refine stP ?_ | (refine stC0_P11b ?_; rintro _ w ⟨rfl, h⟩) | (refine stC1_P11b ?_; rintro _ w ⟨bx, rfl, h⟩) | (refine p_cmp rfl rfl rfl rfl (fun hc => ?_) (fun hc => ?_) <;> simp only [cmpProp] at hc) | fail)
        unfold akv at h
        rw [kvDel_F] at h
        exact x_ret' is_device_Device_Take rfl ⟨rfl, h.pm4⟩
      | some a =>
        rw [hb] at ha
        obtain ⟨ad, an⟩ := a
        have ha : kvGet t (akv anss) = some (.agg #[.string ad, .bool an]) := ha
        dsimp only
        cases hn : an
        · simp only [Bool.false_eq_true, reduceIte]
          rw [hn] at ha
          repeat' (first | contradiction | (refine p_val (dst := some 22) rfl (g_lkp (enc := encI) (v := t) (kv := jkv jobs) keyI rfl rfl (h.pick (by repeat first | exact .here | apply Has.there))) ?_; rw [hj]) | (refine p_val (dst := some 32) rfl (g_lkp (enc := encI) (v := t) (kv := akv anss) keyI rfl rfl (h.pick (by repeat first | exact .here | apply Has.there))) ?_; rw [ha]) | (refine p_val (dst := some 23) rfl (v := .agg #[.int .i64 0, .int .i64 0, .bool false, .string ⟨#[]⟩]) (gives_pure rfl) ?_) | (refine p_val (dst := some 33) rfl (v := .agg #[.string ad, .bool false]) (gives_pure rfl) ?_) | (refine p_do rfl (d_del (enc := encI) (v := t) (kv := akv anss) keyI rfl rfl (h.pick (by repeat first | exact .here | apply Has.there))) ?_; intro _ w h) | refine stP ?_ | (refine stC0_P11b ?_; rintro _ w ⟨rfl, h⟩) | (refine stC1_P11b ?_; rintro _ w ⟨bx, rfl, h⟩) | (refine p_cmp rfl rfl rfl rfl (fun hc => ?_) (fun hc => ?_) <;> simp only [cmpProp] at hc) | fail)
          unfold akv at h
          rw [kvDel_F] at h
          exact x_ret' is_device_Device_Take rfl ⟨rfl, h.pm4⟩
        · simp only [reduceIte]
          rw [hn] at ha
          repeat' (first | contradiction | (refine p_val (dst := some 22) rfl (g_lkp (enc := encI) (v := t) (kv := jkv jobs) keyI rfl rfl (h.pick (by repeat first | exact .here | apply Has.there))) ?_; rw [hj]) | (refine p_val (dst := some 32) rfl (g_lkp (enc := encI) (v := t) (kv := akv anss) keyI rfl rfl (h.pick (by repeat first | exact .here | apply Has.there))) ?_; rw [ha]) | (refine p_val (dst := some 23) rfl (v := .agg #[.int .i64 0, .int .i64 0, .bool false, .string ⟨#[]⟩]) (gives_pure rfl) ?_) | (refine p_val (dst := some 33) rfl (v := .agg #[.string ad, .bool true]) (gives_pure rfl) ?_) | (refine p_do rfl (d_del (enc := encI) (v := t) (kv := akv anss) keyI rfl rfl (h.pick (by repeat first | exact .here | apply Has.there))) ?_; intro _ w h) | refine stP ?_ | (refine stC0_P11b ?_; rintro _ w ⟨rfl, h⟩) | (refine stC1_P11b ?_; rintro _ w ⟨bx, rfl, h⟩) | (refine p_cmp rfl rfl rfl rfl (fun hc => ?_) (fun hc => ?_) <;> simp only [cmpProp] at hc) | fail)
          unfold akv at h
          rw [kvDel_F] at h
          exact x_ret' is_device_Device_Take rfl ⟨rfl, h.pm4⟩
  · dsimp only at h ⊢
    rw [if_pos rfl]
    repeat' (first | contradiction | (refine gC F.device_Device_power ?_; refine p_call rfl rfl (device_Device_power_off (h.rf1)) ?_; rintro _ w ⟨rfl, h⟩) | refine stP ?_ | (refine stC0_P11b ?_; rintro _ w ⟨rfl, h⟩) | (refine stC1_P11b ?_; rintro _ w ⟨bx, rfl, h⟩) | (refine p_cmp rfl rfl rfl rfl (fun hc => ?_) (fun hc => ?_) <;> simp only [cmpProp] at hc) | fail)
    exact x_ret' is_device_Device_Take rfl ⟨rfl, h.pm4⟩

/-! nobody is there -/
theorem device_Device_ask_nil (j : JobM) (h : Sat S w G) : Ret Tryz.prog F.device_Device_ask #[.pointer none, .agg #[.int .i64 j.area, .int .i64 j.no, .bool j.wr, .string j.data]] w (fun v w' => v = .tuple #[.int .i64 0, .int .i64 2] ∧ Sat S w' G) := by
  refine ret_of is_device_Device_ask rfl ?_
  repeat' (first | contradiction | refine stP ?_ | (refine stC0_P11b ?_; rintro _ w ⟨rfl, h⟩) | (refine stC2_P11b ?_; rintro _ w ⟨(⟨rfl, hb⟩ | ⟨rfl, hb⟩), h⟩) | (refine stC3_P11b ?_; rintro _ w ⟨bm, rfl, h⟩) | (refine stC4_P11b ?_; rintro v w ⟨xs, hq1, h⟩) | (refine stC1_P11b ?_; rintro _ w ⟨bx, rfl, h⟩) | (refine p_cmp rfl rfl rfl rfl (fun hc => ?_) (fun hc => ?_) <;> simp only [cmpProp] at hc) | (refine r_cmp rfl rfl rfl rfl rfl (fun hc => ?_) (fun hc => ?_) <;> simp only [cmpProp] at hc) | (refine x_drawn rfl ?_; have h := h.drew) | refine x_drawn rfl ?_ | fail)
  exact x_ret' is_device_Device_ask rfl ⟨rfl, h.drop⟩
theorem device_Device_Write_nil (a n : Int) (s : ByteArray) (h : Sat S w G) : Ret Tryz.prog F.device_Device_Write #[.pointer none, .agg #[.int .i64 a, .int .i64 n], .string s] w (fun v w' => v = .tuple #[.int .i64 0, .int .i64 2] ∧ Sat S w' G) := by
  refine ret_of is_device_Device_Write rfl ?_
  repeat' (first | (refine gC F.device_Device_ask ?_; refine p_call rfl rfl (device_Device_ask_nil ⟨a, n, true, s⟩ h) ?_; rintro _ w ⟨rfl, h⟩) | refine stP ?_ | (refine stC0_P11b ?_; rintro _ w ⟨rfl, h⟩) | (refine stC1_P11b ?_; rintro _ w ⟨bx, rfl, h⟩) | fail)
  exact x_ret' is_device_Device_Write rfl ⟨rfl, h.drop⟩


theorem device_Device_Do_nil (t : Int) (h : Sat S w G) : Ret Tryz.prog F.device_Device_Do #[.pointer none, .int .i64 t] w (fun v w' => v = .int .i64 2 ∧ Sat S w' G) := by
  refine ret_of is_device_Device_Do rfl ?_
  repeat' (first | contradiction | refine stP ?_ | (refine stC0_P11b ?_; rintro _ w ⟨rfl, h⟩) | (refine stC1_P11b ?_; rintro _ w ⟨bx, rfl, h⟩) | (refine p_cmp rfl rfl rfl rfl (fun hc => ?_) (fun hc => ?_) <;> simp only [cmpProp] at hc) | (refine r_cmp rfl rfl rfl rfl rfl (fun hc => ?_) (fun hc => ?_) <;> simp only [cmpProp] at hc) | (refine x_drawn rfl ?_; have h := h.drew) | refine x_drawn rfl ?_ | fail)
  exact x_ret' is_device_Device_Do rfl ⟨rfl, h⟩
theorem device_Device_Take_nil (t : Int) (h : Sat S w G) : Ret Tryz.prog F.device_Device_Take #[.pointer none, .int .i64 t] w (fun v w' => v = .tuple #[.string ⟨#[]⟩, .int .i64 2] ∧ Sat S w' G) := by
  refine ret_of is_device_Device_Take rfl ?_
  repeat' (first | contradiction | refine stP ?_ | (refine stC0_P11b ?_; rintro _ w ⟨rfl, h⟩) | (refine stC1_P11b ?_; rintro _ w ⟨bx, rfl, h⟩) | (refine p_cmp rfl rfl rfl rfl (fun hc => ?_) (fun hc => ?_) <;> simp only [cmpProp] at hc) | fail)
  exact x_ret' is_device_Device_Take rfl ⟨rfl, h⟩




end
end Go.Proofs.YtflbfdmmfoigaaaGreat
