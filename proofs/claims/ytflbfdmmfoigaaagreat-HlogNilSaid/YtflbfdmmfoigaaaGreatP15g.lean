/- Layer 15 (hlog): writes that are done. -/
import Derived.Test.YtflbfdmmfoigaaaGreatHxS
import Derived.Test.YtflbfdmmfoigaaaGreatP15f
import Derived.Test.YtflbfdmmfoigaaaGreatP15s
import Derived.Test.YtflbfdmmfoigaaaGreatLK
namespace Go.Proofs.YtflbfdmmfoigaaaGreat
open Go Go.HX
attribute [local irreducible] Ret XRun XOps XDr XOne Does Gives
set_option maxRecDepth 4000
set_option maxHeartbeats 1000000
theorem stC0_P15g {goal next : Prop} (k : next) (hs : Hid next → goal := by (intro k; (first | (refine gC F.maps_Keys_map_int_int_int_int ?_; refine p_call rfl rfl (maps_Keys_map_int_int_int_int_spec _ (h.rf1)) ?_) | fail); exact k.out)) : goal := hs ⟨k⟩
theorem stC1_P15g {goal next : Prop} (k : next) (hs : Hid next → goal := by (intro k; (first | (refine gC F.slices_Sorted_int ?_; refine p_call rfl rfl (slices_Sorted_int_spec _ ?_ (h.rf2)) ?_; iterate 1 (first | assumption | omega | (simp only []; omega) | decide)) | fail); exact k.out)) : goal := hs ⟨k⟩
theorem stC2_P15g {goal next : Prop} (k : next) (hs : Hid next → goal := by (intro k; (first | (refine gC F.device_Device_Take ?_; refine p_call rfl rfl (device_Device_Take_spec _ _ (h.rf4)) ?_) | (refine gC F.device_Device_Take ?_; refine p_call rfl rfl (device_Device_Take_nil _ h) ?_) | (refine gC F.marks_Set_At ?_; refine p_call rfl rfl (marks_Set_At_spec _ (h.rf1)) ?_) | (refine gC F.marks_Set_At ?_; refine p_call rfl rfl (marks_Set_At_nil _ h) ?_) | fail); exact k.out)) : goal := hs ⟨k⟩
theorem stD3_P15g {goal next : Prop} (k : next) (hs : Hid next → goal := by (intro k; (first | (refine gCR F.tail_Tail_Page ?_; refine r_call rfl rfl rfl (tail_Tail_Page_spec (h.rf1)) ?_) | (refine gCR F.tail_Tail_Page ?_; refine r_call rfl rfl rfl (tail_Tail_Page_nil h) ?_) | (refine gCR F.marks_Set_Raise ?_; refine r_call rfl rfl rfl (marks_Set_Raise_spec _ _ _ ?_ (h.rf1)) ?_; iterate 1 (first | assumption | omega | (simp only []; omega) | decide)) | (refine gCR F.marks_Set_Raise ?_; refine r_call rfl rfl rfl (marks_Set_Raise_nil _ _ _ h) ?_) | fail); exact k.out)) : goal := hs ⟨k⟩
structure LandM where
  land : NL
  fly : NL
  dev : DevM
  n : Int
def landStep (s : LandM) (k : Int) : LandM :=
  if (takeR s.dev k).1.2 ≠ 0 then ⟨s.land, s.fly, (takeR s.dev k).2, s.n⟩
  else ⟨putL (landN s.fly k) (landN s.land (landN s.fly k) + 1) s.land, delL k s.fly, (takeR s.dev k).2, s.n + 1⟩
def landGo (m : List Int) (s : LandM) : LandM := m.foldl landStep s
theorem land_next (m : List Int) (k : Int) (s : LandM) : landGo (m ++ [k]) s = landStep (landGo m s) k := by
  unfold landGo
  rw [List.foldl_append]
  rfl
def wipeGo : Nat → NL → Int → NL × Int
  | 0, land, to => (land, to)
  | n + 1, land, to => if 0 < landN land to then wipeGo n (delL to land) (to + 1) else (land, to)
/-- The pages and the counts of what landed are small. -/
def small (B : Int) (l : NL) : Prop := ∀ p ∈ l, (-1000000 ≤ p.1 ∧ p.1 ≤ 1000000) ∧ -B ≤ p.2 ∧ p.2 ≤ B
def smallF (l : NL) : Prop := ∀ p ∈ l, -1000000 ≤ p.2 ∧ p.2 ≤ 1000000
theorem landN_mem {l : NL} {k : Int} (h : landN l k ≠ 0) : (k, landN l k) ∈ l := by
  unfold landN at h ⊢
  cases hg : getL k l with
  | none => rw [hg] at h; exact absurd rfl h
  | some u => exact getL_mem hg
theorem small_at {B : Int} {l : NL} (hB : 0 ≤ B) (h : small B l) (k : Int) : -B ≤ landN l k ∧ landN l k ≤ B := by
  by_cases hz : landN l k = 0
  · rw [hz]; omega
  · exact (h _ (landN_mem hz)).2
theorem smallF_at {l : NL} (h : smallF l) (k : Int) : -1000000 ≤ landN l k ∧ landN l k ≤ 1000000 := by
  by_cases hz : landN l k = 0
  · rw [hz]; omega
  · exact h _ (landN_mem hz)
theorem land_small {B : Int} {s : LandM} (hB : 0 ≤ B) (h : small B s.land) (hf : smallF s.fly) (k : Int) : small (B + 1) (landStep s k).land ∧ smallF (landStep s k).fly ∧ ((landStep s k).n = s.n ∨ (landStep s k).n = s.n + 1) := by
  have hw : small (B + 1) s.land := fun p hp => ⟨(h p hp).1, by have := (h p hp).2; omega, by have := (h p hp).2; omega⟩
  unfold landStep
  split
  · exact ⟨hw, hf, .inl rfl⟩
  · refine ⟨fun p hp => ?_, fun p hp => hf p ((delL_sub _ _).subset hp), .inr rfl⟩
    rcases mem_putL hp with hp | rfl
    · exact hw p hp
    · have h1 := smallF_at hf k
      have h2 := small_at hB h (landN s.fly k)
      exact ⟨h1, by dsimp only; omega, by dsimp only; omega⟩
theorem lands_go : ∀ (m : List Int) (s : LandM) (B : Int), 0 ≤ B → small B s.land → smallF s.fly → small (B + m.length) (landGo m s).land ∧ smallF (landGo m s).fly ∧ s.n ≤ (landGo m s).n ∧ (landGo m s).n ≤ s.n + m.length
  | [], s, B, _, h, hf => ⟨by rw [show B + ((([] : List Int).length : Nat) : Int) = B by simp]; exact h, hf, by show s.n ≤ s.n; omega, by show s.n ≤ s.n + 0; omega⟩
  | k :: m, s, B, hB, h, hf => by
    obtain ⟨g1, g2, g3⟩ := land_small hB h hf k
    obtain ⟨h1, h2, h3, h4⟩ := lands_go m (landStep s k) (B + 1) (by omega) g1 g2
    have e : landGo (k :: m) s = landGo m (landStep s k) := rfl
    rw [e, List.length_cons]
    rw [show B + 1 + (m.length : Int) = B + ((m.length + 1 : Nat) : Int) by omega] at h1
    exact ⟨h1, h2, by omega, by omega⟩
theorem lands_small {s : LandM} (h : small 1000 s.land) (hf : smallF s.fly) (m : List Int) (h0 : s.n = 0) : small (1000 + m.length) (landGo m s).land ∧ smallF (landGo m s).fly ∧ 0 ≤ (landGo m s).n ∧ (landGo m s).n ≤ m.length := by
  obtain ⟨h1, h2, h3, h4⟩ := lands_go m s 1000 (by omega) h hf
  exact ⟨h1, h2, by omega, by omega⟩
theorem delL_len {l : NL} {k : Int} (h : 0 < landN l k) : (delL k l).length + 1 = l.length := by
  have hm := landN_mem (l := l) (k := k) (by omega)
  generalize landN l k = u at hm
  clear h
  induction l with
  | nil => cases hm
  | cons p l ih =>
    rw [delL_cons]
    split
    · rfl
    · rename_i hne
      rcases List.mem_cons.1 hm with rfl | hm
      · exact absurd rfl hne
      · rw [List.length_cons, List.length_cons, ih hm]
def wipeR (l : List Int) (land : NL) : NL × Int := wipeGo land.length land (atM l 2)
theorem wipe_stop {land : NL} {to : Int} (h : ¬ 0 < landN land to) : ∀ n, wipeGo n land to = (land, to)
  | 0 => rfl
  | n + 1 => by rw [wipeGo, if_neg h]
section
variable {S : SP} {w : World} {G : List HProp}
-- MACRO LTK() = (refine gC F.device_Device_Take ?_; refine p_call rfl rfl (device_Device_Take_spec dev k (h.rf4)) ?_; rw [hT]; rintro _ w ⟨rfl, h⟩)
-- MACRO LDF() = (refine r_own (dst := some 42) rfl rfl rfl h (fun w h => g_lkp (enc := encI) (v := k) (kv := nkv fly) keyI rfl rfl (h.pick (by repeat first | exact .here | apply Has.there))) ?_; rw [hk1, lkV_n, hl1])
-- MACRO LDL() = (refine r_own (dst := some 43) rfl rfl rfl h (fun w h => g_lkp (enc := encI) (v := p) (kv := nkv land) keyI rfl rfl (h.pick (by repeat first | exact .here | apply Has.there))) ?_; rw [hk2, lkV_n, hl2])
-- MACRO LUP() = (refine r_do rfl rfl (d_mup (enc := encI) (v := p) (uv := .int .i64 (c + 1)) (kv := nkv land) keyI rfl rfl rfl (h.pick (by repeat first | exact .here | apply Has.there))) ?_; rintro _ w ⟨rfl, h⟩; refine nowa ?_)
-- MACRO LDD() = (refine p_do rfl (d_del (enc := encI) (v := k) (kv := nkv fly) keyI rfl rfl (h.pick (by repeat first | exact .here | apply Has.there))) ?_; intro _ w h)
set_option maxHeartbeats 16000000 in
theorem hlog_Log_Land_spec {lg tb tc pb mk ep du dv fm lq bb jb ab : Nat} {t : TailM} {l : List Int} (s : LandM) (h0 : s.n = 0) (hsm : small 1000 s.land) (hsf : smallF s.fly) (hl : s.fly.length ≤ 1000) (h : Sat S w (pt lg (.cells #[.pointer (some ⟨tb, 0, none⟩), .pointer (some ⟨pb, 0, none⟩), .pointer (some ⟨mk, 0, none⟩), .pointer (some ⟨ep, 0, none⟩), .pointer (some ⟨du, 0, none⟩), .pointer (some ⟨dv, 0, none⟩), .map (some fm), .map (some lq)] T.hlog_Log (0, 0)) :: isTail tb tc t :: isSet mk l :: isMap encI fm (nkv s.fly) :: isMap encI lq (nkv s.land) :: pt dv (.cells #[.bool (s.dev).off, .map (some bb), .map (some jb), .map (some ab), .int .i64 (s.dev).last] T.device_Device (0, 0)) :: isMap encB bb (bkv (s.dev).blks) :: isMap encI jb (jkv (s.dev).jobs) :: isMap encI ab (akv (s.dev).anss) :: G)) :
    Ret Tryz.prog F.hlog_Log_Land #[.pointer (some ⟨lg, 0, none⟩)] w (fun v w' => ∃ m : List Int, m.Perm (s.fly.map (·.1)) ∧ m.Pairwise (· ≤ ·) ∧ v = .int .i64 (landGo m s).n ∧ Sat S w' (pt lg (.cells #[.pointer (some ⟨tb, 0, none⟩), .pointer (some ⟨pb, 0, none⟩), .pointer (some ⟨mk, 0, none⟩), .pointer (some ⟨ep, 0, none⟩), .pointer (some ⟨du, 0, none⟩), .pointer (some ⟨dv, 0, none⟩), .map (some fm), .map (some lq)] T.hlog_Log (0, 0)) :: isTail tb tc t :: isSet mk (raiseM l 2 (wipeR l (landGo m s).land).2 t.page).2 :: isMap encI fm (nkv (landGo m s).fly) :: isMap encI lq (nkv (wipeR l (landGo m s).land).1) :: pt dv (.cells #[.bool ((landGo m s).dev).off, .map (some bb), .map (some jb), .map (some ab), .int .i64 ((landGo m s).dev).last] T.device_Device (0, 0)) :: isMap encB bb (bkv ((landGo m s).dev).blks) :: isMap encI jb (jkv ((landGo m s).dev).jobs) :: isMap encI ab (akv ((landGo m s).dev).anss) :: G)) := by
  obtain ⟨_, _, _, hso, _⟩ := isSet_open (h.pick (.there (.there .here)))
  have ha := atM_ok hso 2
  refine ret_of is_hlog_Log_Land rfl ?_
  repeat' (first | contradiction | (refine gC F.maps_Keys_map_int_int_int_int ?_; refine p_call rfl rfl (maps_Keys_map_int_int_int_int_spec (nkv s.fly) (h.rf1)) ?_; rintro _ w ⟨bm, rfl, h⟩) | (refine gC F.slices_Sorted_int ?_; refine p_call rfl rfl (sorted_keys (nkv s.fly) (by rw [nkv_len]; exact hl) (h.rf2)) ?_; rintro v w ⟨m, hm, hs, h⟩; obtain ⟨ra, rl, rc, rfl, hrl, _⟩ := ownS_slice h .here; rw [ints_length, Nat.mul_one] at hrl) | refine stP ?_ | (refine stC0_P15g ?_; rintro _ w ⟨bm, rfl, h⟩) | (refine stC1_P15g ?_; rintro v w ⟨m, hq1, hq2, h⟩) | (refine stC2_P15g ?_; rintro _ w ⟨rfl, h⟩) | (refine stD3_P15g ?_; rintro _ w ⟨rfl, h⟩ <;> refine nowa ?_) | (refine p_cmp rfl rfl rfl rfl (fun hc => ?_) (fun hc => ?_) <;> simp only [cmpProp] at hc) | (refine r_cmp rfl rfl rfl rfl rfl (fun hc => ?_) (fun hc => ?_) <;> simp only [cmpProp] at hc) | (refine x_drawn rfl ?_; have h := h.drew) | refine x_drawn rfl ?_ | fail)
  have hmk : m.Perm (s.fly.map (·.1)) := by
    have e : (nkv s.fly).map (·.1) = s.fly.map (·.1) := by unfold nkv mapF; rw [List.map_map]; rfl
    rw [← e]
    exact hm
  have hml : m.length ≤ 1000 := by
    have := hmk.length_eq
    rw [List.length_map] at this
    omega
  obtain ⟨land0, fly0, dev0, n0⟩ := s
  dsimp only at h0
  subst h0
  have hall := fun m => lands_small hsm hsf m rfl
  refine x_keep [0, 3, 16, 17, 18] rfl ?_
  refine x_loop_inv (fun lm le w => ∃ (i : Nat), lm = rl - i ∧ i ≤ rl ∧ le = [(0, .pointer (some ⟨lg, 0, none⟩)), (3, .int .i64 (landGo (m.take i) ⟨land0, fly0, dev0, 0⟩).n), (16, .slice ra rl rc), (17, .int .i64 rl), (18, .int .i64 i)] ∧ Sat S w (ownS T.int 1 (.slice ra rl rc) (ints .i64 m) :: pt lg (.cells #[.pointer (some ⟨tb, 0, none⟩), .pointer (some ⟨pb, 0, none⟩), .pointer (some ⟨mk, 0, none⟩), .pointer (some ⟨ep, 0, none⟩), .pointer (some ⟨du, 0, none⟩), .pointer (some ⟨dv, 0, none⟩), .map (some fm), .map (some lq)] T.hlog_Log (0, 0)) :: isTail tb tc t :: isSet mk l :: isMap encI fm (nkv (landGo (m.take i) ⟨land0, fly0, dev0, 0⟩).fly) :: isMap encI lq (nkv (landGo (m.take i) ⟨land0, fly0, dev0, 0⟩).land) :: pt dv (.cells #[.bool ((landGo (m.take i) ⟨land0, fly0, dev0, 0⟩).dev).off, .map (some bb), .map (some jb), .map (some ab), .int .i64 ((landGo (m.take i) ⟨land0, fly0, dev0, 0⟩).dev).last] T.device_Device (0, 0)) :: isMap encB bb (bkv ((landGo (m.take i) ⟨land0, fly0, dev0, 0⟩).dev).blks) :: isMap encI jb (jkv ((landGo (m.take i) ⟨land0, fly0, dev0, 0⟩).dev).jobs) :: isMap encI ab (akv ((landGo (m.take i) ⟨land0, fly0, dev0, 0⟩).dev).anss) :: G)) (rl) ⟨0, rfl, by omega, rfl, h.sub (.cons (by repeat first | exact .here | apply Has.there) (.cons (by repeat first | exact .here | apply Has.there) (.cons (by repeat first | exact .here | apply Has.there) (.cons (by repeat first | exact .here | apply Has.there) (.cons (by repeat first | exact .here | apply Has.there) (.cons (by repeat first | exact .here | apply Has.there) (.cons (by repeat first | exact .here | apply Has.there) (.cons (by repeat first | exact .here | apply Has.there) (.cons (by repeat first | exact .here | apply Has.there) (.cons (by repeat first | exact .here | apply Has.there) (by repeat first | exact .refl _ | apply Sub.skip)))))))))))⟩ ?_
  clear h
  rintro lm le w ⟨i, rfl, hi0, rfl, h⟩ ih
  by_cases hi : i < rl
  · obtain ⟨k, hk⟩ := has_elem (show i < m.length by omega)
    obtain ⟨rb, rfl⟩ := ownS_addr (E := T.int) h .here (by omega)
    have hgd : m.getD i 0 = k := by rw [List.getD_eq_getElem?_getD, hk]; rfl
    have hnx := land_next (m.take i) k ⟨land0, fly0, dev0, 0⟩
    rw [← take_next hk] at hnx
    obtain ⟨b1, b2, b3, b4⟩ := hall (m.take i)
    have btl : (m.take i).length ≤ 1000 := by rw [List.length_take]; omega
    generalize hst : landGo (m.take i) ⟨land0, fly0, dev0, 0⟩ = st at h hnx b1 b2 b3 b4
    obtain ⟨land, fly, dev, n⟩ := st
    dsimp only at h hnx b1 b2 b3 b4
    unfold landStep at hnx
    dsimp only at hnx
    generalize hT : takeR dev k = T1 at hnx
    obtain ⟨⟨ts, te⟩, dev'⟩ := T1
    dsimp only at hnx
    by_cases hte : te ≠ 0
    · rw [if_pos hte] at hnx
      repeat' (first | contradiction | (refine gL ?_; refine p_val rfl (g_ldI (i := i) rfl (ownS_rd h .here) (by omega) (by omega)) ?_; rw [hgd]) | (refine gC F.device_Device_Take ?_; refine p_call rfl rfl (device_Device_Take_spec dev k (h.rf4)) ?_; rw [hT]; rintro _ w ⟨rfl, h⟩) | refine stP ?_ | (refine stC0_P15g ?_; rintro _ w ⟨bm, rfl, h⟩) | (refine stC1_P15g ?_; rintro v w ⟨m, hq1, hq2, h⟩) | (refine stC2_P15g ?_; rintro _ w ⟨rfl, h⟩) | (refine stD3_P15g ?_; rintro _ w ⟨rfl, h⟩ <;> refine nowa ?_) | (refine p_cmp rfl rfl rfl rfl (fun hc => ?_) (fun hc => ?_) <;> simp only [cmpProp] at hc) | (refine r_cmp rfl rfl rfl rfl rfl (fun hc => ?_) (fun hc => ?_) <;> simp only [cmpProp] at hc) | (refine x_drawn rfl ?_; have h := h.drew) | refine x_drawn rfl ?_ | fail)
      exact x_keep [0, 3, 16, 17, 18] rfl (ih _ _ _ (by omega) ⟨i + 1, rfl, by omega, by rw [hnx]; rfl, by rw [hnx]; exact h.sub (.cons (by repeat first | exact .here | apply Has.there) (.cons (by repeat first | exact .here | apply Has.there) (.cons (by repeat first | exact .here | apply Has.there) (.cons (by repeat first | exact .here | apply Has.there) (.cons (by repeat first | exact .here | apply Has.there) (.cons (by repeat first | exact .here | apply Has.there) (.cons (by repeat first | exact .here | apply Has.there) (.cons (by repeat first | exact .here | apply Has.there) (.cons (by repeat first | exact .here | apply Has.there) (.cons (by repeat first | exact .here | apply Has.there) (by repeat first | exact .refl _ | apply Sub.skip)))))))))))⟩)
    · rw [if_neg hte] at hnx
      obtain rfl : te = 0 := by omega
      have hk1 : kvGet k (nkv fly) = _ := kvGet_F _ _ _
      have hl1 : (getL k fly).getD 0 = landN fly k := rfl
      have hp1 := smallF_at b2 k
      generalize landN fly k = p at hl1 hnx hp1
      have hk2 : kvGet p (nkv land) = _ := kvGet_F _ _ _
      have hl2 : (getL p land).getD 0 = landN land p := rfl
      have hp2 := small_at (by omega) b1 p
      generalize landN land p = c at hl2 hnx hp2
      repeat' (first | contradiction | (refine gL ?_; refine p_val rfl (g_ldI (i := i) rfl (ownS_rd h .here) (by omega) (by omega)) ?_; rw [hgd]) | (refine gC F.device_Device_Take ?_; refine p_call rfl rfl (device_Device_Take_spec dev k (h.rf4)) ?_; rw [hT]; rintro _ w ⟨rfl, h⟩) | (refine r_own (dst := some 42) rfl rfl rfl h (fun w h => g_lkp (enc := encI) (v := k) (kv := nkv fly) keyI rfl rfl (h.pick (by repeat first | exact .here | apply Has.there))) ?_; rw [hk1, lkV_n, hl1]) | (refine r_own (dst := some 43) rfl rfl rfl h (fun w h => g_lkp (enc := encI) (v := p) (kv := nkv land) keyI rfl rfl (h.pick (by repeat first | exact .here | apply Has.there))) ?_; rw [hk2, lkV_n, hl2]) | (refine r_do rfl rfl (d_mup (enc := encI) (v := p) (uv := .int .i64 (c + 1)) (kv := nkv land) keyI rfl rfl rfl (h.pick (by repeat first | exact .here | apply Has.there))) ?_; rintro _ w ⟨rfl, h⟩; refine nowa ?_) | (refine p_do rfl (d_del (enc := encI) (v := k) (kv := nkv fly) keyI rfl rfl (h.pick (by repeat first | exact .here | apply Has.there))) ?_; intro _ w h) | refine stP ?_ | (refine stC0_P15g ?_; rintro _ w ⟨bm, rfl, h⟩) | (refine stC1_P15g ?_; rintro v w ⟨m, hq1, hq2, h⟩) | (refine stC2_P15g ?_; rintro _ w ⟨rfl, h⟩) | (refine stD3_P15g ?_; rintro _ w ⟨rfl, h⟩ <;> refine nowa ?_) | (refine p_cmp rfl rfl rfl rfl (fun hc => ?_) (fun hc => ?_) <;> simp only [cmpProp] at hc) | (refine r_cmp rfl rfl rfl rfl rfl (fun hc => ?_) (fun hc => ?_) <;> simp only [cmpProp] at hc) | (refine x_drawn rfl ?_; have h := h.drew) | refine x_drawn rfl ?_ | fail)
      rw [show kvPut p (Value.int .i64 (c + 1)) (nkv land) = nkv (putL p (c + 1) land) from kvPut_F (fun n => Value.int .i64 n) p (c + 1) land, show kvDel k (nkv fly) = nkv (delL k fly) from kvDel_F (fun n => Value.int .i64 n) k fly] at h
      exact x_keep [0, 3, 16, 17, 18] rfl (ih _ _ _ (by omega) ⟨i + 1, rfl, by omega, by rw [hnx]; rfl, by rw [hnx]; exact h.sub (.cons (by repeat first | exact .here | apply Has.there) (.cons (by repeat first | exact .here | apply Has.there) (.cons (by repeat first | exact .here | apply Has.there) (.cons (by repeat first | exact .here | apply Has.there) (.cons (by repeat first | exact .here | apply Has.there) (.cons (by repeat first | exact .here | apply Has.there) (.cons (by repeat first | exact .here | apply Has.there) (.cons (by repeat first | exact .here | apply Has.there) (.cons (by repeat first | exact .here | apply Has.there) (.cons (by repeat first | exact .here | apply Has.there) (by repeat first | exact .refl _ | apply Sub.skip)))))))))))⟩)
  · obtain rfl : i = rl := by omega
    rw [List.take_of_length_le (by omega)] at h ⊢
    obtain ⟨b1, b2, b3, b4⟩ := hall m
    generalize hst : landGo m ⟨land0, fly0, dev0, 0⟩ = st at h b1 b2 b3 b4
    obtain ⟨land, fly, dev, n⟩ := st
    dsimp only at h b1 b2 b3 b4
    repeat' (first | contradiction | (refine gC F.marks_Set_At ?_; refine p_call rfl rfl (marks_Set_At_spec 2 (h.rf1)) ?_; rintro _ w ⟨rfl, h⟩) | refine stP ?_ | (refine stC0_P15g ?_; rintro _ w ⟨bm, rfl, h⟩) | (refine stC1_P15g ?_; rintro v w ⟨m, hq1, hq2, h⟩) | (refine stC2_P15g ?_; rintro _ w ⟨rfl, h⟩) | (refine stD3_P15g ?_; rintro _ w ⟨rfl, h⟩ <;> refine nowa ?_) | (refine p_cmp rfl rfl rfl rfl (fun hc => ?_) (fun hc => ?_) <;> simp only [cmpProp] at hc) | (refine r_cmp rfl rfl rfl rfl rfl (fun hc => ?_) (fun hc => ?_) <;> simp only [cmpProp] at hc) | (refine x_drawn rfl ?_; have h := h.drew) | refine x_drawn rfl ?_ | fail)
    have hsm2 : small 2000 land := fun p hp => ⟨(b1 p hp).1, by have := (b1 p hp).2; omega, by have := (b1 p hp).2; omega⟩
    refine x_keep [0, 3, 8] rfl ?_
    refine x_loop_inv (fun lm le w => ∃ (ld : NL), ∃ (to : Int), lm = ld.length ∧ small 2000 ld ∧ to ≤ 9223372036854775807 ∧ wipeGo ld.length ld to = wipeR l land ∧ le = [(0, .pointer (some ⟨lg, 0, none⟩)), (3, .int .i64 n), (8, .int .i64 to)] ∧ Sat S w (pt lg (.cells #[.pointer (some ⟨tb, 0, none⟩), .pointer (some ⟨pb, 0, none⟩), .pointer (some ⟨mk, 0, none⟩), .pointer (some ⟨ep, 0, none⟩), .pointer (some ⟨du, 0, none⟩), .pointer (some ⟨dv, 0, none⟩), .map (some fm), .map (some lq)] T.hlog_Log (0, 0)) :: isTail tb tc t :: isSet mk l :: isMap encI fm (nkv fly) :: isMap encI lq (nkv ld) :: pt dv (.cells #[.bool (dev).off, .map (some bb), .map (some jb), .map (some ab), .int .i64 (dev).last] T.device_Device (0, 0)) :: isMap encB bb (bkv (dev).blks) :: isMap encI jb (jkv (dev).jobs) :: isMap encI ab (akv (dev).anss) :: G)) (land.length) ⟨land, atM l 2, rfl, hsm2, ha.2, rfl, rfl, h.pm9⟩ ?_
    clear h
    rintro lm le w ⟨ld, to, rfl, hi0, hi1, hi2, rfl, h⟩ ih
    have hk2 : kvGet to (nkv ld) = _ := kvGet_F _ _ _
    have hl2 : (getL to ld).getD 0 = landN ld to := rfl
    by_cases hc0 : 0 < landN ld to
    · have hlen := delL_len hc0
      have hmem := (hi0 _ (landN_mem (l := ld) (k := to) (by omega))).1
      obtain ⟨nn, hnn⟩ : ∃ nn, ld.length = nn + 1 := ⟨ld.length - 1, by omega⟩
      rw [hnn, wipeGo, if_pos hc0, show nn = (delL to ld).length by omega] at hi2
      dsimp only at hmem
      repeat' (first | contradiction | (refine p_val (dst := some 63) rfl (g_lkp (enc := encI) (v := to) (kv := nkv ld) keyI rfl rfl (h.pick (by repeat first | exact .here | apply Has.there))) ?_; rw [hk2, lkV_n, hl2]) | (refine p_do rfl (d_del (enc := encI) (v := to) (kv := nkv ld) keyI rfl rfl (h.pick (by repeat first | exact .here | apply Has.there))) ?_; intro _ w h) | refine stP ?_ | (refine stC0_P15g ?_; rintro _ w ⟨bm, rfl, h⟩) | (refine stC1_P15g ?_; rintro v w ⟨m, hq1, hq2, h⟩) | (refine stC2_P15g ?_; rintro _ w ⟨rfl, h⟩) | (refine stD3_P15g ?_; rintro _ w ⟨rfl, h⟩ <;> refine nowa ?_) | (refine p_cmp rfl rfl rfl rfl (fun hc => ?_) (fun hc => ?_) <;> simp only [cmpProp] at hc) | (refine r_cmp rfl rfl rfl rfl rfl (fun hc => ?_) (fun hc => ?_) <;> simp only [cmpProp] at hc) | (refine x_drawn rfl ?_; have h := h.drew) | refine x_drawn rfl ?_ | fail)
      rw [show kvDel to (nkv ld) = nkv (delL to ld) from kvDel_F (fun n => Value.int .i64 n) to ld] at h
      exact x_keep [0, 3, 8] rfl (ih _ _ _ (by omega) ⟨delL to ld, to + 1, rfl, fun p hp => hi0 p ((delL_sub _ _).subset hp), by omega, hi2, rfl, h.pm9⟩)
    · rw [wipe_stop hc0] at hi2
      repeat' (first | contradiction | (refine p_val (dst := some 63) rfl (g_lkp (enc := encI) (v := to) (kv := nkv ld) keyI rfl rfl (h.pick (by repeat first | exact .here | apply Has.there))) ?_; rw [hk2, lkV_n, hl2]) | (refine gCR F.tail_Tail_Page ?_; refine r_call rfl rfl rfl (tail_Tail_Page_spec (h.rf1)) ?_; rintro _ w ⟨rfl, h⟩; refine nowa ?_) | (refine gCR F.marks_Set_Raise ?_; refine r_call rfl rfl rfl (marks_Set_Raise_spec 2 to t.page (by omega) (h.rf1)) ?_; rintro _ w ⟨rfl, h⟩; refine nowa ?_) | refine stP ?_ | (refine stC0_P15g ?_; rintro _ w ⟨bm, rfl, h⟩) | (refine stC1_P15g ?_; rintro v w ⟨m, hq1, hq2, h⟩) | (refine stC2_P15g ?_; rintro _ w ⟨rfl, h⟩) | (refine stD3_P15g ?_; rintro _ w ⟨rfl, h⟩ <;> refine nowa ?_) | (refine p_cmp rfl rfl rfl rfl (fun hc => ?_) (fun hc => ?_) <;> simp only [cmpProp] at hc) | (refine r_cmp rfl rfl rfl rfl rfl (fun hc => ?_) (fun hc => ?_) <;> simp only [cmpProp] at hc) | (refine x_drawn rfl ?_; have h := h.drew) | refine x_drawn rfl ?_ | fail)
      exact x_ret' is_hlog_Log_Land rfl ⟨m, hmk, hs, by rw [hst]; rfl, by rw [hst]; rw [← hi2]; exact h.pm9⟩
end
end Go.Proofs.YtflbfdmmfoigaaaGreat
