/- Layer 11 (device): the law DevicePlays. -/
import Derived.Test.YtfchenbihepjaaaHxS
import Derived.Test.YtfchenbihepjaaaL11f
import Derived.Test.YtfchenbihepjaaaP11v
import Derived.Test.YtfchenbihepjaaaW11l
namespace Go.Proofs.Ytfchenbihepjaaa
open Go Go.HX
attribute [local irreducible] Ret XRun XOps XDr XOne Does Gives
set_option maxRecDepth 4000
set_option maxHeartbeats 1000000
theorem stC0_W11p {goal next : Prop} (k : next) (hs : Hid next → goal := by (intro k; (first | (refine gC F.device_Device_Write ?_; refine p_call rfl rfl (device_Device_Write_spec _ _ _ _ ?_ (h.rf4)) ?_; iterate 1 (first | assumption | omega | (simp only []; omega) | decide)) | (refine gC F.device_Device_Write ?_; refine p_call rfl rfl (device_Device_Write_nil _ _ _ h) ?_) | (refine gC F.device_Device_Read ?_; refine p_call rfl rfl (device_Device_Read_spec _ _ _ ?_ (h.rf4)) ?_; iterate 1 (first | assumption | omega | (simp only []; omega) | decide)) | (refine gC F.device_Device_Read ?_; refine p_call rfl rfl (device_Device_Read_nil _ _ h) ?_) | (refine gC F.device_Device_Take ?_; refine p_call rfl rfl (device_Device_Take_spec _ _ (h.rf4)) ?_) | (refine gC F.device_Device_Take ?_; refine p_call rfl rfl (device_Device_Take_nil _ h) ?_) | (refine gC F.ref11_Device_Take ?_; refine p_call rfl rfl (ref11_Device_Take_spec _ _ ?_ ?_ (h.rf3)) ?_; iterate 2 (first | assumption | omega | (simp only []; omega) | decide)) | (refine gC F.device_Device_Start ?_; refine p_call rfl rfl (device_Device_Start_spec _ (h.rf4)) ?_) | (refine gC F.device_Device_Start ?_; refine p_call rfl rfl (device_Device_Start_nil h) ?_) | (refine gC F.ref11_Device_Start ?_; refine p_call rfl rfl (ref11_Device_Start_spec _ (h.rf3)) ?_) | (refine gC F.device_Device_Blocks ?_; refine p_call rfl rfl (device_Device_Blocks_nil h) ?_) | (refine gC F.device_Device_Peek ?_; refine p_call rfl rfl (device_Device_Peek_spec _ _ _ (h.rf4)) ?_) | (refine gC F.device_Device_Peek ?_; refine p_call rfl rfl (device_Device_Peek_nil _ _ h) ?_) | (refine gC F.law11_awake ?_; refine p_call rfl rfl (law11_awake_spec h) ?_) | fail); exact k.out)) : goal := hs ⟨k⟩
theorem stC1_W11p {goal next : Prop} (k : next) (hs : Hid next → goal := by (intro k; (first | (refine gC F.ref11_Device_Ask ?_; refine p_call rfl rfl (ref11_Device_Ask_spec _ _ _ _ _ ?_ (h.rf3)) ?_; iterate 1 (first | assumption | omega | (simp only []; omega) | decide)) | fail); exact k.out)) : goal := hs ⟨k⟩
theorem stC2_W11p {goal next : Prop} (k : next) (hs : Hid next → goal := by (intro k; (first | (refine gBx ?_; refine p_do rfl (d_boxL rfl h (by first | (dsimp only [Value.cells]; done) | exact rfl)) ?_) | fail); exact k.out)) : goal := hs ⟨k⟩
theorem stD3_W11p {goal next : Prop} (k : next) (hs : Hid next → goal := by (intro k; (first | (refine gCR F.device_Device_Do ?_; refine r_call rfl rfl rfl (device_Device_Do_spec _ _ (h.rf4)) ?_) | (refine gCR F.device_Device_Do ?_; refine r_call rfl rfl rfl (device_Device_Do_nil _ h) ?_) | (refine gCR F.device_Device_Crash ?_; refine r_call rfl rfl rfl (device_Device_Crash_nil _ _ h) ?_) | (refine gCR F.law11_alike ?_; refine r_call rfl rfl rfl (law11_alike_spec _ (h.rf7)) ?_) | (refine gCR F.device_Device_Flight ?_; refine r_call rfl rfl rfl (device_Device_Flight_nil h) ?_) | (refine gCR F.device_Device_On ?_; refine r_call rfl rfl rfl (device_Device_On_spec _ (h.rf1)) ?_) | (refine gCR F.device_Device_On ?_; refine r_call rfl rfl rfl (device_Device_On_nil h) ?_) | fail); exact k.out)) : goal := hs ⟨k⟩
theorem stD4_W11p {goal next : Prop} (k : next) (hs : Hid next → goal := by (intro k; (first | (refine gCR F.ref11_Device_Do ?_; refine r_call rfl rfl rfl (ref11_Device_Do_spec _ _ ?_ ?_ ?_ (h.rf3)) ?_; iterate 3 (first | assumption | omega | (simp only []; omega) | decide)) | fail); exact k.out)) : goal := hs ⟨k⟩
theorem stC5_W11p {goal next : Prop} (k : next) (hs : Hid next → goal := by (intro k; (first | (refine gC F.device_Device_Blocks ?_; refine p_call rfl rfl (device_Device_Blocks_spec _ ?_ (h.rf4)) ?_; iterate 1 (first | assumption | omega | (simp only []; omega) | decide)) | fail); exact k.out)) : goal := hs ⟨k⟩
theorem stC6_W11p {goal next : Prop} (k : next) (hs : Hid next → goal := by (intro k; (first | (refine gC F.device_New ?_; refine p_call rfl rfl (device_New_spec h) ?_) | fail); exact k.out)) : goal := hs ⟨k⟩
theorem stD7_W11p {goal next : Prop} (k : next) (hs : Hid next → goal := by (intro k; (first | (refine gCR F.ref11_Device_Flight ?_; refine r_call rfl rfl rfl (ref11_Device_Flight_spec _ ?_ (h.rf3)) ?_; iterate 1 (first | assumption | omega | (simp only []; omega) | decide)) | fail); exact k.out)) : goal := hs ⟨k⟩
theorem blk_one (b : Int × Int) : ∀ (k : Nat) u, [Value.int .i64 b.1, .int .i64 b.2][k]? = some u → (blkC b)[0 + k]? = some u
  | 0, u, h => h
  | 1, u, h => h
  | k + 2, u, h => by simp at h
section
variable {S : SP} {w : World} {G : List HProp}
-- MACRO LQB() = (refine p_val rfl (g_ldq (vs := [.int .i64 ca, .int .i64 cn]) rfl (h.at (by repeat first | exact .here | apply Has.there)) rfl rfl) ?_)
set_option maxHeartbeats 16000000 in
theorem law11_does_spec {d bb jb ab mb : Nat} {iv jv : Value} {x : DevM} {m : DocM} {k : Nat} (a : Act11) (hr : Rel11 x m k) (hk : k ≤ 200) (hps : ∀ z ∈ a.picks, z ≤ 9223372036854775807) (hn : -9223372036854775808 ≤ a.n) (hL : Old S 1 (.slice a.pa a.pl a.pc) (ints .i64 a.picks)) (h : Sat S w (pt d (.cells #[.bool (x).off, .map (some bb), .map (some jb), .map (some ab), .int .i64 (x).last] T.device_Device (0, 0)) :: isMap encB bb (bkv (x).blks) :: isMap encI jb (jkv (x).jobs) :: isMap encI ab (akv (x).anss) :: pt mb (.cells #[.bool (m).off, iv, jv] T.haycroftref11_Device (0, 0)) :: ownS T.haycroftref11_Item 3 iv (rows itemC (m).items) :: ownS T.haycroftref11_Job 6 jv (rows jobDC (m).jobs) :: G)) :
    Ret Try.prog F.law11_does #[.pointer (some ⟨d, 0, none⟩), .pointer (some ⟨mb, 0, none⟩), .agg (act11C a).toArray] w (fun v w' => v = .bool true ∧ ∃ x' m' iv jv, Rel11 x' m' (k + 1) ∧ Sat S w' (pt d (.cells #[.bool (x').off, .map (some bb), .map (some jb), .map (some ab), .int .i64 (x').last] T.device_Device (0, 0)) :: isMap encB bb (bkv (x').blks) :: isMap encI jb (jkv (x').jobs) :: isMap encI ab (akv (x').anss) :: pt mb (.cells #[.bool (m').off, iv, jv] T.haycroftref11_Device (0, 0)) :: ownS T.haycroftref11_Item 3 iv (rows itemC (m').items) :: ownS T.haycroftref11_Job 6 jv (rows jobDC (m').jobs) :: G)) := by
  obtain ⟨kd, ca, cn, s, n, qa, ql, qc, ps⟩ := a
  dsimp only at hps hn hL
  have hdv := hr.dev (by omega)
  have hlk := hr.lk
  have hfw := hr.few
  refine ret_of is_law11_does rfl ?_
  by_cases k1 : kd = 1
  · subst k1
    obtain ⟨e1, hq⟩ := hr.ask ca cn true s
    generalize hR : askR x ⟨ca, cn, true, s⟩ = R at e1 hq
    generalize hD : askD m ca cn true s = D at e1 hq
    obtain ⟨⟨t1, r1⟩, x'⟩ := R
    obtain ⟨⟨t2, r2⟩, m'⟩ := D
    dsimp only at e1 hq
    injection e1 with e1 e2
    subst e1 e2
    repeat' (first | contradiction | (refine p_val rfl (g_ldq (vs := [.int .i64 ca, .int .i64 cn]) rfl (h.at (by repeat first | exact .here | apply Has.there)) rfl rfl) ?_) | (refine gC F.device_Device_Write ?_; refine p_call rfl rfl (device_Device_Write_spec x ca cn s hdv (h.rf4)) ?_; rw [hR]; rintro _ w ⟨rfl, h⟩) | (refine gC F.ref11_Device_Ask ?_; refine p_call rfl rfl (ref11_Device_Ask_spec m ca cn true s (by omega) (h.rf3)) ?_; rw [hD]; rintro _ w ⟨rfl, jv2, h⟩) | refine stP ?_ | (refine stC0_W11p ?_; rintro _ w ⟨rfl, h⟩) | (refine stC1_W11p ?_; rintro _ w ⟨rfl, ⟨jv, h⟩⟩) | (refine stC2_W11p ?_; rintro _ w ⟨bx, rfl, h⟩) | (refine stD3_W11p ?_; rintro _ w ⟨rfl, h⟩ <;> refine nowa ?_) | (refine stD4_W11p ?_; rintro _ w ⟨rfl, ⟨iv, h⟩⟩ <;> refine nowa ?_) | (refine p_cmp rfl rfl rfl rfl (fun hc => ?_) (fun hc => ?_) <;> simp only [cmpProp] at hc) | (refine r_cmp rfl rfl rfl rfl rfl (fun hc => ?_) (fun hc => ?_) <;> simp only [cmpProp] at hc) | (refine x_drawn rfl ?_; have h := h.drew) | refine x_drawn rfl ?_ | fail)
    exact x_ret' is_law11_does rfl ⟨rfl, x', m', _, _, hq, h.pm7⟩
  by_cases k2 : kd = 2
  · subst k2
    obtain ⟨e1, hq⟩ := hr.ask ca cn false ⟨#[]⟩
    generalize hR : askR x ⟨ca, cn, false, ⟨#[]⟩⟩ = R at e1 hq
    generalize hD : askD m ca cn false ⟨#[]⟩ = D at e1 hq
    obtain ⟨⟨t1, r1⟩, x'⟩ := R
    obtain ⟨⟨t2, r2⟩, m'⟩ := D
    dsimp only at e1 hq
    injection e1 with e1 e2
    subst e1 e2
    repeat' (first | contradiction | (refine p_val rfl (g_ldq (vs := [.int .i64 ca, .int .i64 cn]) rfl (h.at (by repeat first | exact .here | apply Has.there)) rfl rfl) ?_) | (refine gC F.device_Device_Read ?_; refine p_call rfl rfl (device_Device_Read_spec x ca cn hdv (h.rf4)) ?_; rw [hR]; rintro _ w ⟨rfl, h⟩) | (refine gC F.ref11_Device_Ask ?_; refine p_call rfl rfl (ref11_Device_Ask_spec m ca cn false ⟨#[]⟩ (by omega) (h.rf3)) ?_; rw [hD]; rintro _ w ⟨rfl, jv2, h⟩) | refine stP ?_ | (refine stC0_W11p ?_; rintro _ w ⟨rfl, h⟩) | (refine stC1_W11p ?_; rintro _ w ⟨rfl, ⟨jv, h⟩⟩) | (refine stC2_W11p ?_; rintro _ w ⟨bx, rfl, h⟩) | (refine stD3_W11p ?_; rintro _ w ⟨rfl, h⟩ <;> refine nowa ?_) | (refine stD4_W11p ?_; rintro _ w ⟨rfl, ⟨iv, h⟩⟩ <;> refine nowa ?_) | (refine p_cmp rfl rfl rfl rfl (fun hc => ?_) (fun hc => ?_) <;> simp only [cmpProp] at hc) | (refine r_cmp rfl rfl rfl rfl rfl (fun hc => ?_) (fun hc => ?_) <;> simp only [cmpProp] at hc) | (refine x_drawn rfl ?_; have h := h.drew) | refine x_drawn rfl ?_ | fail)
    exact x_ret' is_law11_does rfl ⟨rfl, x', m', _, _, hq, h.pm7⟩
  by_cases k3 : kd = 3
  · subst k3
    obtain ⟨e1, hq⟩ := hr.doit n
    generalize hR : doR x n = R at e1 hq
    generalize hD : doD m n = D at e1 hq
    obtain ⟨r1, x'⟩ := R
    obtain ⟨r2, m'⟩ := D
    dsimp only at e1 hq
    subst e1
    repeat' (first | contradiction | (refine gCR F.device_Device_Do ?_; refine r_call rfl rfl rfl (device_Device_Do_spec x n (h.rf4)) ?_; rw [hR]; rintro _ w ⟨rfl, h⟩; refine nowa ?_) | (refine gCR F.ref11_Device_Do ?_; refine r_call rfl rfl rfl (ref11_Device_Do_spec m n (by omega) (by omega) hn (h.rf3)) ?_; rw [hD]; rintro _ w ⟨rfl, iv2, h⟩; refine nowa ?_) | refine stP ?_ | (refine stC0_W11p ?_; rintro _ w ⟨rfl, h⟩) | (refine stC1_W11p ?_; rintro _ w ⟨rfl, ⟨jv, h⟩⟩) | (refine stC2_W11p ?_; rintro _ w ⟨bx, rfl, h⟩) | (refine stD3_W11p ?_; rintro _ w ⟨rfl, h⟩ <;> refine nowa ?_) | (refine stD4_W11p ?_; rintro _ w ⟨rfl, ⟨iv, h⟩⟩ <;> refine nowa ?_) | (refine p_cmp rfl rfl rfl rfl (fun hc => ?_) (fun hc => ?_) <;> simp only [cmpProp] at hc) | (refine r_cmp rfl rfl rfl rfl rfl (fun hc => ?_) (fun hc => ?_) <;> simp only [cmpProp] at hc) | (refine x_drawn rfl ?_; have h := h.drew) | refine x_drawn rfl ?_ | fail)
    exact x_ret' is_law11_does rfl ⟨rfl, x', m', _, _, hq, h.pm7⟩
  by_cases k4 : kd = 4
  · subst k4
    obtain ⟨e1, hq⟩ := hr.take n
    generalize hR : takeR x n = R at e1 hq
    generalize hD : takeD m n = D at e1 hq
    obtain ⟨⟨t1, r1⟩, x'⟩ := R
    obtain ⟨⟨t2, r2⟩, m'⟩ := D
    dsimp only at e1 hq
    injection e1 with e1 e2
    subst e1 e2
    repeat' (first | contradiction | (refine gC F.device_Device_Take ?_; refine p_call rfl rfl (device_Device_Take_spec x n (h.rf4)) ?_; rw [hR]; rintro _ w ⟨rfl, h⟩) | (refine gC F.ref11_Device_Take ?_; refine p_call rfl rfl (ref11_Device_Take_spec m n (by omega) hn (h.rf3)) ?_; rw [hD]; rintro _ w ⟨rfl, h⟩) | (refine p_val (dst := some 102) rfl (g_seq rfl rfl) ?_; rw [decide_eq_true rfl]) | refine stP ?_ | (refine stC0_W11p ?_; rintro _ w ⟨rfl, h⟩) | (refine stC1_W11p ?_; rintro _ w ⟨rfl, ⟨jv, h⟩⟩) | (refine stC2_W11p ?_; rintro _ w ⟨bx, rfl, h⟩) | (refine stD3_W11p ?_; rintro _ w ⟨rfl, h⟩ <;> refine nowa ?_) | (refine stD4_W11p ?_; rintro _ w ⟨rfl, ⟨iv, h⟩⟩ <;> refine nowa ?_) | (refine p_cmp rfl rfl rfl rfl (fun hc => ?_) (fun hc => ?_) <;> simp only [cmpProp] at hc) | (refine r_cmp rfl rfl rfl rfl rfl (fun hc => ?_) (fun hc => ?_) <;> simp only [cmpProp] at hc) | (refine x_drawn rfl ?_; have h := h.drew) | refine x_drawn rfl ?_ | fail)
    exact x_ret' is_law11_does rfl ⟨rfl, x', m', _, _, hq, h.pm7⟩
  by_cases k5 : kd = 5
  · subst k5
    have hsj : ∀ j ∈ m.jobs, j.s.size ≤ 131072 := fun j hj => (hr.okj j hj).2.1
    have hsz : ∀ p ∈ m.items, p.2.size ≤ 131072 := fun p hp => (hr.oki p hp).2
    by_cases ho : m.off = true
    · have hD : crashD m ps = (6, m) := by unfold crashD; rw [if_pos ho]
      repeat' (first | contradiction | (refine gCR F.device_Device_Crash ?_; refine r_call rfl rfl rfl (device_Device_Crash_spec x ps hdv hr.szb hr.szj hps (fun w h => hL _ _ h) (h.rf4)) ?_; rintro _ w (⟨_, rfl, h⟩ | ⟨hoff, _⟩); rotate_left; (rw [hr.off, ho] at hoff; cases hoff); refine nowa ?_) | (refine gCR F.ref11_Device_Crash ?_; refine r_call rfl rfl rfl (ref11_Device_Crash_spec m ps (by omega) (by omega) hsj hsz hps (fun w h => hL _ _ h) (h.rf3)) ?_; rw [hD]; rintro _ w ⟨rfl, iv2, h⟩; refine nowa ?_) | refine stP ?_ | (refine stC0_W11p ?_; rintro _ w ⟨rfl, h⟩) | (refine stC1_W11p ?_; rintro _ w ⟨rfl, ⟨jv, h⟩⟩) | (refine stC2_W11p ?_; rintro _ w ⟨bx, rfl, h⟩) | (refine stD3_W11p ?_; rintro _ w ⟨rfl, h⟩ <;> refine nowa ?_) | (refine stD4_W11p ?_; rintro _ w ⟨rfl, ⟨iv, h⟩⟩ <;> refine nowa ?_) | (refine p_cmp rfl rfl rfl rfl (fun hc => ?_) (fun hc => ?_) <;> simp only [cmpProp] at hc) | (refine r_cmp rfl rfl rfl rfl rfl (fun hc => ?_) (fun hc => ?_) <;> simp only [cmpProp] at hc) | (refine x_drawn rfl ?_; have h := h.drew) | refine x_drawn rfl ?_ | fail)
      exact x_ret' is_law11_does rfl ⟨rfl, x, m, _, _, hr.later, h.pm7⟩
    · have hD : crashD m ps = (0, ⟨true, crashDGo m.jobs ps m.items, m.jobs.map goneJ⟩) := by unfold crashD; rw [if_neg ho]
      have hq := hr.crash ps
      repeat' (first | contradiction | (refine gCR F.device_Device_Crash ?_; refine r_call rfl rfl rfl (device_Device_Crash_spec x ps hdv hr.szb hr.szj hps (fun w h => hL _ _ h) (h.rf4)) ?_; rintro _ w (⟨hoff, _⟩ | ⟨_, rfl, l, hm, hsd, h⟩); (rw [hr.off] at hoff; exact absurd hoff ho); obtain rfl := hr.sorted hm hsd; refine nowa ?_) | (refine gCR F.ref11_Device_Crash ?_; refine r_call rfl rfl rfl (ref11_Device_Crash_spec m ps (by omega) (by omega) hsj hsz hps (fun w h => hL _ _ h) (h.rf3)) ?_; rw [hD]; rintro _ w ⟨rfl, iv2, h⟩; refine nowa ?_) | refine stP ?_ | (refine stC0_W11p ?_; rintro _ w ⟨rfl, h⟩) | (refine stC1_W11p ?_; rintro _ w ⟨rfl, ⟨jv, h⟩⟩) | (refine stC2_W11p ?_; rintro _ w ⟨bx, rfl, h⟩) | (refine stD3_W11p ?_; rintro _ w ⟨rfl, h⟩ <;> refine nowa ?_) | (refine stD4_W11p ?_; rintro _ w ⟨rfl, ⟨iv, h⟩⟩ <;> refine nowa ?_) | (refine p_cmp rfl rfl rfl rfl (fun hc => ?_) (fun hc => ?_) <;> simp only [cmpProp] at hc) | (refine r_cmp rfl rfl rfl rfl rfl (fun hc => ?_) (fun hc => ?_) <;> simp only [cmpProp] at hc) | (refine x_drawn rfl ?_; have h := h.drew) | refine x_drawn rfl ?_ | fail)
      exact x_ret' is_law11_does rfl ⟨rfl, _, _, _, _, hq, h.pm7⟩
  by_cases k6 : kd = 6
  · subst k6
    obtain ⟨e1, hq⟩ := hr.on
    repeat' (first | contradiction | (refine gC F.device_Device_Start ?_; refine p_call rfl rfl (device_Device_Start_spec x (h.rf4)) ?_; rw [e1]; rintro _ w ⟨rfl, h⟩) | (refine gC F.ref11_Device_Start ?_; refine p_call rfl rfl (ref11_Device_Start_spec m (h.rf3)) ?_; rintro _ w ⟨rfl, h⟩) | refine stP ?_ | (refine stC0_W11p ?_; rintro _ w ⟨rfl, h⟩) | (refine stC1_W11p ?_; rintro _ w ⟨rfl, ⟨jv, h⟩⟩) | (refine stC2_W11p ?_; rintro _ w ⟨bx, rfl, h⟩) | (refine stD3_W11p ?_; rintro _ w ⟨rfl, h⟩ <;> refine nowa ?_) | (refine stD4_W11p ?_; rintro _ w ⟨rfl, ⟨iv, h⟩⟩ <;> refine nowa ?_) | (refine p_cmp rfl rfl rfl rfl (fun hc => ?_) (fun hc => ?_) <;> simp only [cmpProp] at hc) | (refine r_cmp rfl rfl rfl rfl rfl (fun hc => ?_) (fun hc => ?_) <;> simp only [cmpProp] at hc) | (refine x_drawn rfl ?_; have h := h.drew) | refine x_drawn rfl ?_ | fail)
    exact x_ret' is_law11_does rfl ⟨rfl, _, _, _, _, hq, h.pm7⟩
  repeat' (first | contradiction | refine stP ?_ | (refine stC0_W11p ?_; rintro _ w ⟨rfl, h⟩) | (refine stC1_W11p ?_; rintro _ w ⟨rfl, ⟨jv, h⟩⟩) | (refine stC2_W11p ?_; rintro _ w ⟨bx, rfl, h⟩) | (refine stD3_W11p ?_; rintro _ w ⟨rfl, h⟩ <;> refine nowa ?_) | (refine stD4_W11p ?_; rintro _ w ⟨rfl, ⟨iv, h⟩⟩ <;> refine nowa ?_) | (refine p_cmp rfl rfl rfl rfl (fun hc => ?_) (fun hc => ?_) <;> simp only [cmpProp] at hc) | (refine r_cmp rfl rfl rfl rfl rfl (fun hc => ?_) (fun hc => ?_) <;> simp only [cmpProp] at hc) | (refine x_drawn rfl ?_; have h := h.drew) | refine x_drawn rfl ?_ | fail)
  exact x_ret' is_law11_does rfl ⟨rfl, x, m, _, _, hr.later, h.pm7⟩
set_option maxHeartbeats 16000000 in
theorem law11_alike_spec {d bb jb ab mb : Nat} {iv jv : Value} {x : DevM} {m : DocM} {k : Nat} (hr : Rel11 x m k) (h : Sat S w (pt d (.cells #[.bool (x).off, .map (some bb), .map (some jb), .map (some ab), .int .i64 (x).last] T.device_Device (0, 0)) :: isMap encB bb (bkv (x).blks) :: isMap encI jb (jkv (x).jobs) :: isMap encI ab (akv (x).anss) :: pt mb (.cells #[.bool (m).off, iv, jv] T.haycroftref11_Device (0, 0)) :: ownS T.haycroftref11_Item 3 iv (rows itemC (m).items) :: ownS T.haycroftref11_Job 6 jv (rows jobDC (m).jobs) :: G)) :
    Ret Try.prog F.law11_alike #[.pointer (some ⟨d, 0, none⟩), .pointer (some ⟨mb, 0, none⟩)] w (fun v w' => v = .bool true ∧ Sat S w' (pt d (.cells #[.bool (x).off, .map (some bb), .map (some jb), .map (some ab), .int .i64 (x).last] T.device_Device (0, 0)) :: isMap encB bb (bkv (x).blks) :: isMap encI jb (jkv (x).jobs) :: isMap encI ab (akv (x).anss) :: pt mb (.cells #[.bool (m).off, iv, jv] T.haycroftref11_Device (0, 0)) :: ownS T.haycroftref11_Item 3 iv (rows itemC (m).items) :: ownS T.haycroftref11_Job 6 jv (rows jobDC (m).jobs) :: G)) := by
  have hfw := hr.few
  have hbw := hr.blks
  obtain ⟨va, vl, vc, rfl, hvl, _⟩ := ownS_slice h (.there (.there (.there (.there (.there .here)))))
  rw [rows_length itemC_len] at hvl
  refine ret_of is_law11_alike rfl ?_
  repeat' (first | contradiction | (refine gC F.device_Device_Blocks ?_; refine p_call rfl rfl (device_Device_Blocks_spec x (by omega) (h.rf4)) ?_; rintro u w ⟨l, hm, hs, h⟩; obtain rfl := hr.b.sorted hm hs; obtain ⟨ua, ul, uc, rfl, hul, _⟩ := ownS_slice h .here; rw [rows_length blkC_len, List.length_map] at hul) | refine stP ?_ | (refine stC0_W11p ?_; rintro _ w ⟨rfl, h⟩) | (refine stC5_W11p ?_; rintro v w ⟨m, hq1, hq2, h⟩) | (refine p_cmp rfl rfl rfl rfl (fun hc => ?_) (fun hc => ?_) <;> simp only [cmpProp] at hc) | refine p_eqa rfl rfl rfl rfl rfl rfl (fun hc => ?_) (fun hc => ?_) | (refine r_cmp rfl rfl rfl rfl rfl (fun hc => ?_) (fun hc => ?_) <;> simp only [cmpProp] at hc) | refine r_eqa rfl rfl rfl rfl rfl rfl rfl (fun hc => ?_) (fun hc => ?_) | (refine x_drawn rfl ?_; have h := h.drew) | refine x_drawn rfl ?_ | fail)
  all_goals first | (exfalso; omega) | skip
  refine x_keep [0, 1, 5, 6] rfl ?_
  refine x_loop_inv (fun lm le w => ∃ (i : Nat), lm = ul - i ∧ i ≤ ul ∧ le = [(0, .pointer (some ⟨d, 0, none⟩)), (1, .pointer (some ⟨mb, 0, none⟩)), (5, .slice ua ul uc), (6, .int .i64 i)] ∧ Sat S w (ownS T.api_Block 2 (.slice ua ul uc) (rows blkC (m.items.map (·.1))) :: pt d (.cells #[.bool (x).off, .map (some bb), .map (some jb), .map (some ab), .int .i64 (x).last] T.device_Device (0, 0)) :: isMap encB bb (bkv (x).blks) :: isMap encI jb (jkv (x).jobs) :: isMap encI ab (akv (x).anss) :: pt mb (.cells #[.bool m.off, .slice va vl vc, jv] T.haycroftref11_Device (0, 0)) :: ownS T.haycroftref11_Item 3 (.slice va vl vc) (rows itemC m.items) :: ownS T.haycroftref11_Job 6 jv (rows jobDC m.jobs) :: G)) (ul) ⟨0, rfl, by omega, rfl, h.pm8⟩ ?_
  clear h
  rintro lm le w ⟨i, rfl, hi0, rfl, h⟩ ih
  by_cases hi : i < ul
  · obtain ⟨y, hyi⟩ := has_elem (show i < m.items.length by omega)
    obtain ⟨ub, rfl⟩ := ownS_addr (E := T.api_Block) h .here (by omega)
    obtain ⟨vo, rfl⟩ := ownS_addr (E := T.haycroftref11_Item) h (.there (.there (.there (.there (.there (.there .here)))))) (by omega)
    obtain ⟨⟨ya, yn⟩, ys⟩ := y
    have hbi : (m.items.map (·.1))[i]? = some (ya, yn) := by rw [List.getElem?_map, hyi]; rfl
    have hgp : getL (ya, yn) x.blks = some ys := by
      rw [hr.b.get]
      exact getL_of_mem (up_nodup hr.b.up) (List.mem_of_getElem? hyi)
    repeat' (first | contradiction | (exact absurd ⟨rfl, rfl, trivial⟩ hc) | (refine gL ?_; refine p_val (dst := some 30) rfl (g_ldE (i := i) blkC_len rfl (ownS_rd h (by repeat first | exact .here | apply Has.there)) hbi (by omega)) ?_) | (refine gC F.device_Device_Peek ?_; refine p_call rfl rfl (device_Device_Peek_spec x ya yn (h.rf4)) ?_; rw [hgp]; dsimp only [Option.getD, Option.isSome]; rintro _ w ⟨rfl, h⟩) | (refine gLR ?_; first | (refine r_own (dst := some 37) rfl rfl rfl h (fun w h => g_ldE (i := i) blkC_len rfl (ownS_rd h (by repeat first | exact .here | apply Has.there)) hbi (by omega)) ?_) | (refine r_own (dst := some 45) rfl rfl rfl h (fun w h => g_ldP (i := i) (f := 0) (us := [.int .i64 ya, .int .i64 yn]) itemC_len rfl (ownS_rd h (by repeat first | exact .here | apply Has.there)) hyi rfl (item_b ((ya, yn), ys)) (by omega)) ?_) | (refine r_own (dst := some 56) rfl rfl rfl h (fun w h => g_ldF (i := i) (f := 2) itemC_len rfl (ownS_rd h (by repeat first | exact .here | apply Has.there)) hyi rfl (by omega)) ?_)) | (refine r_pure (d := some 57) rfl rfl rfl (fun _ => g_sne rfl rfl) ?_; rw [decide_eq_true rfl]) | refine stP ?_ | (refine stC0_W11p ?_; rintro _ w ⟨rfl, h⟩) | (refine stC5_W11p ?_; rintro v w ⟨m, hq1, hq2, h⟩) | (refine p_cmp rfl rfl rfl rfl (fun hc => ?_) (fun hc => ?_) <;> simp only [cmpProp] at hc) | refine p_eqa rfl rfl rfl rfl rfl rfl (fun hc => ?_) (fun hc => ?_) | (refine r_cmp rfl rfl rfl rfl rfl (fun hc => ?_) (fun hc => ?_) <;> simp only [cmpProp] at hc) | refine r_eqa rfl rfl rfl rfl rfl rfl rfl (fun hc => ?_) (fun hc => ?_) | (refine x_drawn rfl ?_; have h := h.drew) | refine x_drawn rfl ?_ | fail)
    exact x_keep [0, 1, 5, 6] rfl (ih _ _ _ (by omega) ⟨i + 1, rfl, by omega, rfl, h.pm8⟩)
  · repeat' (first | refine stPs ?_ | (refine stC0_W11p ?_; rintro _ w ⟨rfl, h⟩) | (refine stC5_W11p ?_; rintro v w ⟨m, hq1, hq2, h⟩) | (refine p_cmp rfl rfl rfl rfl (fun hc => ?_) (fun hc => ?_) <;> simp only [cmpProp] at hc) | refine p_eqa rfl rfl rfl rfl rfl rfl (fun hc => ?_) (fun hc => ?_) | (refine r_cmp rfl rfl rfl rfl rfl (fun hc => ?_) (fun hc => ?_) <;> simp only [cmpProp] at hc) | refine r_eqa rfl rfl rfl rfl rfl rfl rfl (fun hc => ?_) (fun hc => ?_) | (refine x_drawn rfl ?_; have h := h.drew) | refine x_drawn rfl ?_ | fail)
    exact x_ret' is_law11_alike rfl ⟨rfl, h.pm7⟩
set_option maxHeartbeats 32000000 in
theorem law11_DevicePlays_spec {v1 : Value} (al : List Act11) (W0 : World) (hl : ∀ a ∈ al, Act11In W0 a ∧ -9223372036854775808 ≤ a.n) (hS : S = ⟨W0.heap.size, W0⟩) (hA : Old S 6 v1 (rows act11C al)) (h : Sat S w G) :
    Ret Try.prog F.law11_DevicePlays #[v1] w (fun v w' => v = .bool true ∧ Sat S w' []) := by
  obtain ⟨va, vl, vc, rfl, _⟩ := hA _ w h
  have hvl := (hA _ w h).rlen act11C_len (by decide)
  refine ret_of is_law11_DevicePlays rfl ?_
  repeat' (first | refine stPs ?_ | (refine stC0_W11p ?_; rintro _ w ⟨rfl, h⟩) | (refine stC6_W11p ?_; rintro _ w ⟨d, bb, jb, ab, rfl, h⟩) | (refine stC2_W11p ?_; rintro _ w ⟨bx, rfl, h⟩) | (refine stD3_W11p ?_; rintro _ w ⟨rfl, h⟩ <;> refine nowa ?_) | (refine stD7_W11p ?_; rintro v w h <;> refine nowa ?_) | (refine p_cmp rfl rfl rfl rfl (fun hc => ?_) (fun hc => ?_) <;> simp only [cmpProp] at hc) | (refine r_cmp rfl rfl rfl rfl rfl (fun hc => ?_) (fun hc => ?_) <;> simp only [cmpProp] at hc) | (refine x_drawn rfl ?_; have h := h.drew) | refine x_drawn rfl ?_ | fail)
  obtain ⟨q, rfl⟩ : ∃ q, q = bx := ⟨bx, rfl⟩
  have h := ownS_none (E := T.haycroftref11_Item) (n := 3) (ownS_none (E := T.haycroftref11_Job) (n := 6) h)
  refine x_keep [0, 3, 4, 5] rfl ?_
  refine x_loop_inv (fun lm le w => ∃ (i : Nat), ∃ (x : DevM), ∃ (m : DocM), ∃ (iv jv : Value), lm = vl - i ∧ i ≤ vl ∧ i ≤ 120 ∧ Rel11 x m i ∧ le = [(0, .slice va vl vc), (3, .pointer (some ⟨d, 0, none⟩)), (4, .pointer (some ⟨q, 0, none⟩)), (5, .int .i64 i)] ∧ Sat S w (pt d (.cells #[.bool (x).off, .map (some bb), .map (some jb), .map (some ab), .int .i64 (x).last] T.device_Device (0, 0)) :: isMap encB bb (bkv (x).blks) :: isMap encI jb (jkv (x).jobs) :: isMap encI ab (akv (x).anss) :: pt q (.cells #[.bool m.off, iv, jv] T.haycroftref11_Device (0, 0)) :: ownS T.haycroftref11_Item 3 iv (rows itemC m.items) :: ownS T.haycroftref11_Job 6 jv (rows jobDC m.jobs) :: G)) (vl) ⟨0, ⟨false, [], [], [], 0⟩, ⟨false, [], []⟩, .slice none 0 0, .slice none 0 0, rfl, by omega, by omega, Rel11.start, rfl, h.pm7⟩ ?_
  clear h
  rintro lm le w ⟨i, x, m, iv, jv, rfl, hi0, hi1, hi2, rfl, h⟩ ih
  have hr := hi2
  by_cases hi : i < vl ∧ i < 120
  · obtain ⟨hi, h120⟩ := hi
    obtain ⟨a, ha⟩ := has_elem (show i < al.length by omega)
    obtain ⟨⟨hps, hrd⟩, han⟩ := hl a (List.mem_of_getElem? ha)
    obtain ⟨pa, po, rfl⟩ := (hA _ w h).addr (by omega)
    have hL : Old S 1 (.slice a.pa a.pl a.pc) (ints .i64 a.picks) := fun G w h => by subst hS; exact hrd.later h
    repeat' (first | contradiction | (refine gL ?_; refine p_val rfl (g_ldF (i := i) (f := 3) (u := .string a.s) act11C_len rfl (hA _ _ h) ha rfl (by omega)) ?_) | (refine gLR ?_; refine r_old rfl rfl rfl h (fun G w h => g_ldE (i := i) act11C_len rfl (hA _ _ h) ha (by omega)) ?_) | (refine gCR F.law11_does ?_; refine r_call rfl rfl rfl (law11_does_spec a hr (by omega) (fun z hz => (hps z hz).2) han hL (h.rf7)) ?_; rintro _ w ⟨rfl, x', ⟨mo, mi, mj⟩, iv', jv', hr', h⟩; dsimp only at h; refine nowa ?_) | (refine gCR F.law11_alike ?_; refine r_call rfl rfl rfl (law11_alike_spec hr' (h.rf7)) ?_; rintro _ w ⟨rfl, h⟩; dsimp only at h; refine nowa ?_) | (refine gCR F.device_Device_Flight ?_; refine r_call rfl rfl rfl (device_Device_Flight_spec x' (by have h8 := hr'.dev (by omega); exact h8.jobs) (h.rf4)) ?_; rintro u w ⟨l, hm, hs, h⟩; obtain rfl := hr'.sorted hm hs; refine nowa ?_) | (refine gCR F.ref11_Device_Flight ?_; refine r_call rfl rfl rfl (ref11_Device_Flight_spec ⟨mo, mi, mj⟩ (by have h8 := hr'.lk; dsimp only at h8 ⊢; omega) (h.rf3)) ?_; rintro u2 w h; dsimp only at h; refine nowa ?_) | (refine gCR F.ref11_Ints ?_; refine r_call rfl rfl rfl (ref11_Ints_spec (flightGo 0 mj) (by have h8 := hr'.lk; have h9 := flight_len 0 mj; dsimp only at h8; omega) (fun w h => ownS_rd h (.there (.there (.there (.there .here))))) (fun w h => ownS_rd h .here) h) ?_; rintro _ w ⟨rfl, h⟩; refine nowa ?_) | (refine gCR F.device_Device_On ?_; refine r_call rfl rfl rfl (device_Device_On_spec x'.off (h.rf1)) ?_; rintro _ w ⟨rfl, h⟩; refine nowa ?_) | refine stP ?_ | (refine stC0_W11p ?_; rintro _ w ⟨rfl, h⟩) | (refine stC6_W11p ?_; rintro _ w ⟨d, bb, jb, ab, rfl, h⟩) | (refine stC2_W11p ?_; rintro _ w ⟨bx, rfl, h⟩) | (refine stD3_W11p ?_; rintro _ w ⟨rfl, h⟩ <;> refine nowa ?_) | (refine stD7_W11p ?_; rintro v w h <;> refine nowa ?_) | (refine p_cmp rfl rfl rfl rfl (fun hc => ?_) (fun hc => ?_) <;> simp only [cmpProp] at hc) | (refine r_cmp rfl rfl rfl rfl rfl (fun hc => ?_) (fun hc => ?_) <;> simp only [cmpProp] at hc) | (refine x_drawn rfl ?_; have h := h.drew) | refine x_drawn rfl ?_ | fail)
    · exact x_keep [0, 3, 4, 5] rfl (ih _ _ _ (by omega) ⟨i + 1, x, m, iv, jv, rfl, by omega, by omega, hr.later, rfl, h.pm7⟩)
    · cases mo
      · rw [show x'.off = false from hr'.off]
        repeat' (first | contradiction | refine stP ?_ | (refine stC0_W11p ?_; rintro _ w ⟨rfl, h⟩) | (refine stC6_W11p ?_; rintro _ w ⟨d, bb, jb, ab, rfl, h⟩) | (refine stC2_W11p ?_; rintro _ w ⟨bx, rfl, h⟩) | (refine stD3_W11p ?_; rintro _ w ⟨rfl, h⟩ <;> refine nowa ?_) | (refine stD7_W11p ?_; rintro v w h <;> refine nowa ?_) | (refine p_cmp rfl rfl rfl rfl (fun hc => ?_) (fun hc => ?_) <;> simp only [cmpProp] at hc) | (refine r_cmp rfl rfl rfl rfl rfl (fun hc => ?_) (fun hc => ?_) <;> simp only [cmpProp] at hc) | (refine x_drawn rfl ?_; have h := h.drew) | refine x_drawn rfl ?_ | fail)
        exact x_keep [0, 3, 4, 5] rfl (ih _ _ _ (by omega) ⟨i + 1, x', ⟨false, mi, mj⟩, iv', jv', rfl, by omega, by omega, hr', rfl, h.pm7⟩)
      · rw [show x'.off = true from hr'.off]
        repeat' (first | contradiction | refine stP ?_ | (refine stC0_W11p ?_; rintro _ w ⟨rfl, h⟩) | (refine stC6_W11p ?_; rintro _ w ⟨d, bb, jb, ab, rfl, h⟩) | (refine stC2_W11p ?_; rintro _ w ⟨bx, rfl, h⟩) | (refine stD3_W11p ?_; rintro _ w ⟨rfl, h⟩ <;> refine nowa ?_) | (refine stD7_W11p ?_; rintro v w h <;> refine nowa ?_) | (refine p_cmp rfl rfl rfl rfl (fun hc => ?_) (fun hc => ?_) <;> simp only [cmpProp] at hc) | (refine r_cmp rfl rfl rfl rfl rfl (fun hc => ?_) (fun hc => ?_) <;> simp only [cmpProp] at hc) | (refine x_drawn rfl ?_; have h := h.drew) | refine x_drawn rfl ?_ | fail)
        exact x_keep [0, 3, 4, 5] rfl (ih _ _ _ (by omega) ⟨i + 1, x', ⟨true, mi, mj⟩, iv', jv', rfl, by omega, by omega, hr', rfl, h.pm7⟩)
    · cases mo
      · rw [show x'.off = false from hr'.off]
        repeat' (first | contradiction | refine stP ?_ | (refine stC0_W11p ?_; rintro _ w ⟨rfl, h⟩) | (refine stC6_W11p ?_; rintro _ w ⟨d, bb, jb, ab, rfl, h⟩) | (refine stC2_W11p ?_; rintro _ w ⟨bx, rfl, h⟩) | (refine stD3_W11p ?_; rintro _ w ⟨rfl, h⟩ <;> refine nowa ?_) | (refine stD7_W11p ?_; rintro v w h <;> refine nowa ?_) | (refine p_cmp rfl rfl rfl rfl (fun hc => ?_) (fun hc => ?_) <;> simp only [cmpProp] at hc) | (refine r_cmp rfl rfl rfl rfl rfl (fun hc => ?_) (fun hc => ?_) <;> simp only [cmpProp] at hc) | (refine x_drawn rfl ?_; have h := h.drew) | refine x_drawn rfl ?_ | fail)
        exact x_keep [0, 3, 4, 5] rfl (ih _ _ _ (by omega) ⟨i + 1, x', ⟨false, mi, mj⟩, iv', jv', rfl, by omega, by omega, hr', rfl, h.pm7⟩)
      · rw [show x'.off = true from hr'.off]
        repeat' (first | contradiction | refine stP ?_ | (refine stC0_W11p ?_; rintro _ w ⟨rfl, h⟩) | (refine stC6_W11p ?_; rintro _ w ⟨d, bb, jb, ab, rfl, h⟩) | (refine stC2_W11p ?_; rintro _ w ⟨bx, rfl, h⟩) | (refine stD3_W11p ?_; rintro _ w ⟨rfl, h⟩ <;> refine nowa ?_) | (refine stD7_W11p ?_; rintro v w h <;> refine nowa ?_) | (refine p_cmp rfl rfl rfl rfl (fun hc => ?_) (fun hc => ?_) <;> simp only [cmpProp] at hc) | (refine r_cmp rfl rfl rfl rfl rfl (fun hc => ?_) (fun hc => ?_) <;> simp only [cmpProp] at hc) | (refine x_drawn rfl ?_; have h := h.drew) | refine x_drawn rfl ?_ | fail)
        exact x_keep [0, 3, 4, 5] rfl (ih _ _ _ (by omega) ⟨i + 1, x', ⟨true, mi, mj⟩, iv', jv', rfl, by omega, by omega, hr', rfl, h.pm7⟩)
  · repeat' (first | refine stPs ?_ | (refine stC0_W11p ?_; rintro _ w ⟨rfl, h⟩) | (refine stC6_W11p ?_; rintro _ w ⟨d, bb, jb, ab, rfl, h⟩) | (refine stC2_W11p ?_; rintro _ w ⟨bx, rfl, h⟩) | (refine stD3_W11p ?_; rintro _ w ⟨rfl, h⟩ <;> refine nowa ?_) | (refine stD7_W11p ?_; rintro v w h <;> refine nowa ?_) | (refine p_cmp rfl rfl rfl rfl (fun hc => ?_) (fun hc => ?_) <;> simp only [cmpProp] at hc) | (refine r_cmp rfl rfl rfl rfl rfl (fun hc => ?_) (fun hc => ?_) <;> simp only [cmpProp] at hc) | (refine x_drawn rfl ?_; have h := h.drew) | refine x_drawn rfl ?_ | fail)
    all_goals first | (exfalso; omega) | exact x_ret' is_law11_DevicePlays rfl ⟨rfl, h.nil⟩
end
theorem arg_act11n {W : World} {cs : List Value} (h : Arg W act11Ty cs) : ∃ a : Act11, cs = act11C a ∧ (Act11In W a ∧ -9223372036854775808 ≤ a.n) := by
  obtain ⟨_, _, rfl, ⟨k, rfl, _⟩, _, _, rfl, ⟨_, _, rfl, ⟨ba, rfl, _⟩, _, _, rfl, ⟨bn, rfl, _⟩, hu⟩, _, _, rfl, ⟨s, rfl, _⟩, _, _, rfl, ⟨n, rfl, hn⟩, _, _, rfl, ⟨pa, pl, pc, els, rfl, _, _, hr, hall⟩, h⟩ := h
  obtain rfl : _ = [] := h
  obtain rfl : _ = [] := hu
  obtain ⟨l, e, hl⟩ := els_intsI hall
  rw [e] at hr
  exact ⟨⟨k, ba, bn, s, n, pa, pl, pc, l⟩, rfl, ⟨hl, hr⟩, (wf_i64 hn).1⟩
theorem DevicePlays_law (a0 : Option Addr) (len0 cap0 : Nat) (W : World) (w0 : Arg W (.sl act11Ty) [.slice a0 len0 cap0]) :
    Ret Try.prog F.law11_DevicePlays #[.slice a0 len0 cap0] W (fun v w' => v = .bool true ∧ Sat ⟨W.heap.size, W⟩ w' []) := by
  obtain ⟨a, len, cap, els, he, _, _, hr, hall⟩ := w0
  simp at he
  obtain ⟨rfl, rfl, rfl⟩ := he
  obtain ⟨l, rfl, _, hl⟩ := list_of (f := act11C) (p := fun a => Act11In W a ∧ -9223372036854775808 ≤ a.n) (fun c hc => arg_act11n (hall c hc))
  exact law11_DevicePlays_spec l W hl rfl (fun G w h => hr.later h) (Sat.begin W)
end Go.Proofs.Ytfchenbihepjaaa
