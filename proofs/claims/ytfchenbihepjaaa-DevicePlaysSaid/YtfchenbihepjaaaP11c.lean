/- Layer 11 (device): what is under way; the power goes. -/
import Derived.Test.YtfchenbihepjaaaHxS
import Derived.Test.YtfchenbihepjaaaP11k
import Derived.Test.YtfchenbihepjaaaP11b
namespace Go.Proofs.Ytfchenbihepjaaa
open Go Go.HX
attribute [local irreducible] Ret XRun XOps XDr XOne Does Gives
set_option maxRecDepth 4000
set_option maxHeartbeats 1000000
theorem stC0_P11c {goal next : Prop} (k : next) (hs : Hid next → goal := by (intro k; (first | (refine gC F.maps_Keys_map_int_device_job_int_device_job ?_; refine p_call rfl rfl (maps_Keys_map_int_device_job_int_device_job_spec _ (h.rf1)) ?_) | fail); exact k.out)) : goal := hs ⟨k⟩
theorem stC1_P11c {goal next : Prop} (k : next) (hs : Hid next → goal := by (intro k; (first | (refine gC F.slices_Sorted_int ?_; refine p_call rfl rfl (slices_Sorted_int_spec _ ?_ (h.rf2)) ?_; iterate 1 (first | assumption | omega | (simp only []; omega) | decide)) | fail); exact k.out)) : goal := hs ⟨k⟩
theorem stC2_P11c {goal next : Prop} (k : next) (hs : Hid next → goal := by (intro k; (first | (refine gC F.device_Device_power ?_; refine p_call rfl rfl (device_Device_power_spec (h.rf1)) ?_) | (refine gC F.device_Device_power ?_; refine p_call rfl rfl (device_Device_power_nil h) ?_) | (refine gC F.device_Device_Flight ?_; refine p_call rfl rfl (device_Device_Flight_nil h) ?_) | (refine gS ?_; (first | refine p_do rfl (d_stwL rfl rfl rfl rfl rfl (h.pick (by repeat first | exact .here | apply Has.there)) (by first | (dsimp only [Value.cells]; done) | exact rfl)) ?_ | refine p_do rfl (d_stL rfl rfl rfl (h.pick (by repeat first | exact .here | apply Has.there)) (by first | exact of_decide_eq_true rfl | simp) (by first | (dsimp only [List.set]; done) | exact rfl)) ?_)) | fail); exact k.out)) : goal := hs ⟨k⟩
theorem stC3_P11c {goal next : Prop} (k : next) (hs : Hid next → goal := by (intro k; (first | (refine gN ?_; refine p_do rfl (d_newL h (by first | (dsimp only [Value.cells]; done) | exact rfl)) ?_) | fail); exact k.out)) : goal := hs ⟨k⟩
theorem stD4_P11c {goal next : Prop} (k : next) (hs : Hid next → goal := by (intro k; (first | (refine gCR F.device_torn ?_; refine r_call rfl rfl rfl (device_torn_spec _ _ _ ?_ ?_ ?_ ?_ h) ?_; iterate 4 (first | assumption | omega | (simp only []; omega) | decide)) | fail); exact k.out)) : goal := hs ⟨k⟩
def tornN (data : ByteArray) (pick : Int) : Nat := ((pick - 2) % ((data.size : Int) + 1)).toNat
def tornB (was data : ByteArray) (pick : Int) : ByteArray := data.extract 0 (tornN data pick) ++ was.extract (min (tornN data pick) was.size) was.size
theorem tornN_le (data : ByteArray) (pick : Int) : tornN data pick ≤ data.size := by
  unfold tornN
  have := Int.emod_lt_of_pos (pick - 2) (show (0 : Int) < (data.size : Int) + 1 by omega)
  have := Int.emod_nonneg (pick - 2) (show ((data.size : Int) + 1) ≠ 0 by omega)
  omega
theorem ints_map (kd : IntKind) (l : List Int) : ints kd l = l.map (Value.int kd) := rfl
theorem tornB_size (was data : ByteArray) (pick : Int) : (tornB was data pick).size ≤ max was.size data.size := by
  have := tornN_le data pick
  unfold tornB
  rw [ByteArray.size_append, ByteArray.size_extract, ByteArray.size_extract]
  omega
/-- One write that is under way, when the power goes. -/
def crash1 (j : JobM) (p : Int) (B : BL) : BL :=
  if p = 1 then putL (j.area, j.no) j.data B else if 1 < p then putL (j.area, j.no) (tornB ((getL (j.area, j.no) B).getD ⟨#[]⟩) j.data p) B else B
def crashGo (jobs : JL) : List Int → List Int → BL → BL
  | [], _, B => B
  | t :: ts, ps, B => match getL t jobs with
    | none => crashGo jobs ts ps B
    | some j => if j.wr = true then crashGo jobs ts ps.tail (crash1 j (ps.headD 0) B) else crashGo jobs ts ps B
theorem crash_nil (jobs : JL) (ps : List Int) (B : BL) : crashGo jobs [] ps B = B := rfl
theorem crash_cons {jobs : JL} {t : Int} {j : JobM} (hg : getL t jobs = some j) (ts ps : List Int) (B : BL) : crashGo jobs (t :: ts) ps B = if j.wr = true then crashGo jobs ts ps.tail (crash1 j (ps.headD 0) B) else crashGo jobs ts ps B := by
  rw [crashGo, hg]
section
variable {κ α : Type} [DecidableEq κ]
theorem getL_mem {v : κ} {u : α} {l : List (κ × α)} (h : getL v l = some u) : (v, u) ∈ l := by
  unfold getL at h
  obtain ⟨p, hp, he⟩ := Option.map_eq_some_iff.1 h
  have h1 := List.mem_of_find?_eq_some hp
  have h2 := List.find?_some hp
  simp at h2
  obtain ⟨pk, pv⟩ := p
  simp at h2 he
  subst h2
  subst he
  exact h1
theorem getL_has {v : κ} {l : List (κ × α)} (h : v ∈ l.map (·.1)) : ∃ u, getL v l = some u := by
  obtain ⟨p, hp, rfl⟩ := List.mem_map.1 h
  unfold getL
  cases hf : l.find? (fun q => decide (q.1 = p.1)) with
  | none =>
    have := List.find?_eq_none.1 hf p hp
    simp at this
  | some q => exact ⟨q.2, rfl⟩
theorem mem_putL {v : κ} {u : α} {l : List (κ × α)} {p : κ × α} (h : p ∈ putL v u l) : p ∈ l ∨ p = (v, u) := by
  unfold putL at h
  split at h
  · rcases List.mem_or_eq_of_mem_set h with h | h
    · exact .inl h
    · exact .inr h
  · simpa using h
end
theorem crash1_size {j : JobM} {q : Int} {B : BL} (hj : j.data.size ≤ 131072) (h : ∀ p ∈ B, p.2.size ≤ 131072) : ∀ p ∈ crash1 j q B, p.2.size ≤ 131072 := by
  intro p hp
  unfold crash1 at hp
  split at hp
  · rcases mem_putL hp with hp | rfl
    · exact h p hp
    · exact hj
  · split at hp
    · rcases mem_putL hp with hp | rfl
      · exact h p hp
      · have h1 := tornB_size ((getL (j.area, j.no) B).getD ⟨#[]⟩) j.data q
        have h2 : ((getL (j.area, j.no) B).getD ⟨#[]⟩).size ≤ 131072 := by
          cases hg : getL (j.area, j.no) B with
          | none => exact Nat.zero_le _
          | some s => exact h _ (getL_mem hg)
        show (tornB ((getL (j.area, j.no) B).getD ⟨#[]⟩) j.data q).size ≤ 131072
        omega
    · exact h p hp
section
variable {S : SP} {w : World} {G : List HProp}
theorem device_Device_Flight_spec {d bb jb ab : Nat} (x : DevM) (hl : x.jobs.length ≤ 1000) (h : Sat S w (pt d (.cells #[.bool (x).off, .map (some bb), .map (some jb), .map (some ab), .int .i64 (x).last] T.device_Device (0, 0)) :: isMap encB bb (bkv (x).blks) :: isMap encI jb (jkv (x).jobs) :: isMap encI ab (akv (x).anss) :: G)) : Ret Try.prog F.device_Device_Flight #[.pointer (some ⟨d, 0, none⟩)] w (fun v w' => ∃ m : List Int, m.Perm (x.jobs.map (·.1)) ∧ m.Pairwise (· ≤ ·) ∧ Sat S w' (ownS T.int 1 v (ints .i64 m) :: pt d (.cells #[.bool (x).off, .map (some bb), .map (some jb), .map (some ab), .int .i64 (x).last] T.device_Device (0, 0)) :: isMap encB bb (bkv (x).blks) :: isMap encI jb (jkv (x).jobs) :: isMap encI ab (akv (x).anss) :: G)) := by
  refine ret_of is_device_Device_Flight rfl ?_
  have ek : (jkv x.jobs).map (·.1) = x.jobs.map (·.1) := by unfold jkv; rw [List.map_map]; rfl
  repeat' (first | (refine gC F.maps_Keys_map_int_device_job_int_device_job ?_; refine p_call rfl rfl (maps_Keys_map_int_device_job_int_device_job_spec (jkv x.jobs) (h.rf1)) ?_; rintro _ w ⟨bm, rfl, h⟩) | (refine gC F.slices_Sorted_int ?_; refine p_call rfl rfl (slices_Sorted_int_spec (jkv x.jobs) (by rw [jkv_len]; exact hl) (h.rf2)) ?_; rw [ek]; rintro v w ⟨m, hm, hs, h⟩) | refine stP ?_ | (refine stC0_P11c ?_; rintro _ w ⟨bm, rfl, h⟩) | (refine stC1_P11c ?_; rintro v w ⟨m, hq1, hq2, h⟩) | fail)
  exact x_ret' is_device_Device_Flight rfl ⟨m, hm, hs, h.pm5⟩
theorem device_torn_spec (was data : ByteArray) (pick : Int) (p2 : 2 ≤ pick) (p3 : pick ≤ 9223372036854775807) (hd : data.size ≤ 1000000) (hw : was.size ≤ 1000000) (h : Sat S w G) : Ret Try.prog F.device_torn #[.string was, .string data, .int .i64 pick] w (fun v w' => v = .string (tornB was data pick) ∧ Sat S w' G) := by
  refine ret_of is_device_torn rfl ?_
  have hn := tornN_le data pick
  have hn2 : ((tornN data pick : Nat) : Int) = (pick - 2) % ((data.size : Int) + 1) := by
    unfold tornN
    exact Int.toNat_of_nonneg (Int.emod_nonneg _ (by omega))
  have hm : ((min (tornN data pick) was.size : Nat) : Int) = min ((pick - 2) % ((data.size : Int) + 1)) (was.size : Int) := by
    rw [← hn2]
    omega
  have hsz : (data.extract 0 (tornN data pick)).size + (was.extract (min (tornN data pick) was.size) was.size).size ≤ 9223372036854775807 := by
    rw [ByteArray.size_extract, ByteArray.size_extract]
    omega
  repeat' (first | (refine r_pure (d := some 16) rfl rfl rfl (fun _ => g_sls (l' := 0) (h' := tornN data pick) rfl rfl rfl rfl hn2 (by omega) hn) ?_) | (refine r_pure (d := some 21) rfl rfl rfl (fun _ => g_min2 rfl rfl) ?_) | (refine r_pure (d := some 22) rfl rfl rfl (fun _ => g_sls (l' := min (tornN data pick) was.size) (h' := was.size) rfl rfl rfl hm rfl (by omega) (by omega)) ?_) | (refine r_pure (d := some 23) rfl rfl rfl (fun _ => g_sadd rfl rfl hsz) ?_) | refine stP ?_ | (refine x_drawn rfl ?_; have h := h.drew) | refine x_drawn rfl ?_ | fail)
  exact x_ret' is_device_torn rfl ⟨rfl, h⟩

abbrev OA := Option Addr
abbrev IL := List Int
-- MACRO LKC() = (refine p_val (dst := some 27) rfl (g_lkp (enc := encI) (v := t) (kv := jkv jobs) keyI rfl rfl (h.pick (by repeat first | exact .here | apply Has.there))) ?_; rw [hj, lkV_f])
-- MACRO LDF() = (refine gL ?_; refine p_val (dst := some 21) rfl (g_ldV (i := i) rfl (ownS_rd h .here) (by omega) hu) ?_)
-- MACRO PK() = (refine r_own (dst := some 36) rfl rfl rfl (G := G) (h.sub (by repeat first | exact .refl _ | apply Sub.skip)) (fun w h => g_ldV (i := 0) rfl (hi4 w h) (by omega) rfl) ?_)
-- MACRO PKS() = (refine r_pure (d := some 38) rfl rfl rfl (fun _ => g_slc (l' := 1) (h' := ql) rfl rfl rfl rfl rfl (by omega) (by omega)) ?_)
-- MACRO PUTC(s) = (refine r_do rfl rfl (d_mup (enc := encB) (v := (ja, jn)) (uv := .string s) (kv := bkv B) keyB rfl rfl rfl (h.pick (by repeat first | exact .here | apply Has.there))) ?_; rintro _ w ⟨rfl, h⟩; refine nowa ?_)
-- MACRO LKW() = (refine r_own (dst := some 65) rfl rfl rfl h (fun w h => g_lkp (enc := encB) (v := (ja, jn)) keyB rfl rfl (h.pick (by repeat first | exact .here | apply Has.there))) ?_; rw [hk, lkV_s])
-- MACRO TORN() = (refine gCR F.device_torn ?_; refine r_call rfl rfl rfl (device_torn_spec ((getL (ja, jn) B).getD ⟨#[]⟩) jd q (by omega) hq9 (by omega) hws h) ?_; rintro _ w ⟨rfl, h⟩; refine nowa ?_)
theorem lkV_f (z u : Value) : lkV z false (some u) = u := rfl
theorem lkV_s (o : Option ByteArray) : lkV (.string ⟨#[]⟩) false (o.map (fun s => Value.string s)) = .string (o.getD ⟨#[]⟩) := by cases o <;> rfl
set_option maxHeartbeats 16000000 in
theorem device_Device_Crash_spec {d bb jb ab pl pc : Nat} {pa : Option Addr} (x : DevM) (picks : List Int) (hx : DevOk x) (hsz : ∀ p ∈ x.blks, p.2.size ≤ 131072) (hsj : ∀ p ∈ x.jobs, p.2.data.size ≤ 131072) (hpk : ∀ p ∈ picks, p ≤ 9223372036854775807) (hr : ∀ w, Sat S w G → RdS w 1 (.slice pa pl pc) (ints .i64 picks)) (h : Sat S w (pt d (.cells #[.bool (x).off, .map (some bb), .map (some jb), .map (some ab), .int .i64 (x).last] T.device_Device (0, 0)) :: isMap encB bb (bkv (x).blks) :: isMap encI jb (jkv (x).jobs) :: isMap encI ab (akv (x).anss) :: G)) :
    Ret Try.prog F.device_Device_Crash #[.pointer (some ⟨d, 0, none⟩), .slice pa pl pc] w (fun v w' => (x.off = true ∧ v = .int .i64 6 ∧ Sat S w' (pt d (.cells #[.bool (x).off, .map (some bb), .map (some jb), .map (some ab), .int .i64 (x).last] T.device_Device (0, 0)) :: isMap encB bb (bkv (x).blks) :: isMap encI jb (jkv (x).jobs) :: isMap encI ab (akv (x).anss) :: G)) ∨ (x.off = false ∧ v = .int .i64 0 ∧ ∃ m : List Int, m.Perm (x.jobs.map (·.1)) ∧ m.Pairwise (· ≤ ·) ∧ Sat S w' (pt d (.cells #[.bool ((⟨true, crashGo x.jobs m picks x.blks, [], [], x.last⟩ : DevM)).off, .map (some bb), .map (some jb), .map (some ab), .int .i64 ((⟨true, crashGo x.jobs m picks x.blks, [], [], x.last⟩ : DevM)).last] T.device_Device (0, 0)) :: isMap encB bb (bkv ((⟨true, crashGo x.jobs m picks x.blks, [], [], x.last⟩ : DevM)).blks) :: isMap encI jb (jkv ((⟨true, crashGo x.jobs m picks x.blks, [], [], x.last⟩ : DevM)).jobs) :: isMap encI ab (akv ((⟨true, crashGo x.jobs m picks x.blks, [], [], x.last⟩ : DevM)).anss) :: G))) := by
  obtain ⟨l0, l1, lj⟩ := hx
  obtain ⟨off, blks, jobs, anss, last⟩ := x
  dsimp only at l0 l1 lj hsz hsj
  refine ret_of is_device_Device_Crash rfl ?_
  cases off
  · dsimp only at h ⊢
    repeat' (first | contradiction | (refine gC F.device_Device_Flight ?_; refine p_call rfl rfl (device_Device_Flight_spec ⟨false, blks, jobs, anss, last⟩ lj (h.rf4)) ?_; dsimp only; rintro v w ⟨m, hm, hs, h⟩; obtain ⟨fa, fl, fc, rfl, hfl, _⟩ := ownS_slice h .here) | refine stP ?_ | (refine stC2_P11c ?_; rintro _ w ⟨rfl, h⟩) | (refine stC3_P11c ?_; rintro _ w ⟨bx, rfl, h⟩) | (refine stD4_P11c ?_; rintro _ w ⟨rfl, h⟩ <;> refine nowa ?_) | (refine p_cmp rfl rfl rfl rfl (fun hc => ?_) (fun hc => ?_) <;> simp only [cmpProp] at hc) | (refine r_cmp rfl rfl rfl rfl rfl (fun hc => ?_) (fun hc => ?_) <;> simp only [cmpProp] at hc) | (refine x_drawn rfl ?_; have h := h.drew) | refine x_drawn rfl ?_ | fail)
    have hml : m.length = fl := by
      rw [ints_length, Nat.mul_one] at hfl
      exact hfl
    have hmj := hm.length_eq
    rw [List.length_map] at hmj
    refine x_keep [0, 1, 16, 17, 18] rfl ?_
    refine x_loop_inv (fun lm le w => ∃ (i : Nat), ∃ (B : BL), ∃ (ps : IL), ∃ (qa : OA), ∃ (ql : Nat), ∃ (qc : Nat), lm = fl - i ∧ i ≤ fl ∧ crashGo jobs m picks blks = crashGo jobs (m.drop i) ps B ∧ (∀ p ∈ B, p.2.size ≤ 131072) ∧ (∀ p ∈ ps, p ≤ 9223372036854775807) ∧ (∀ w, Sat S w G → RdS w 1 (.slice qa ql qc) (ints .i64 ps)) ∧ le = [(0, .pointer (some ⟨d, 0, none⟩)), (1, .slice qa ql qc), (16, .slice fa fl fc), (17, .int .i64 fl), (18, .int .i64 i)] ∧ Sat S w (ownS T.int 1 (.slice fa fl fc) (ints .i64 m) :: pt d (.cells #[.bool false, .map (some bb), .map (some jb), .map (some ab), .int .i64 last] T.device_Device (0, 0)) :: isMap encB bb (bkv B) :: isMap encI jb (jkv jobs) :: isMap encI ab (akv anss) :: G)) (fl) ⟨0, blks, picks, pa, pl, pc, rfl, by omega, rfl, hsz, hpk, hr, rfl, h⟩ ?_
    clear h
    rintro lm le w ⟨i, B, ps, qa, ql, qc, rfl, hi0, hi1, hi2, hi3, hi4, rfl, h⟩ ih
    by_cases hi : i < fl
    · obtain ⟨t, ht⟩ := has_elem (show i < m.length by omega)
      obtain ⟨fb, rfl⟩ := ownS_addr (E := T.int) h .here (by omega)
      have htm : t ∈ jobs.map (·.1) := hm.mem_iff.1 (List.mem_of_getElem? ht)
      obtain ⟨⟨ja, jn, jw, jd⟩, hg⟩ := getL_has htm
      have hjd : jd.size ≤ 131072 := hsj _ (getL_mem hg)
      have hj : kvGet t (jkv jobs) = some (.agg #[.int .i64 ja, .int .i64 jn, .bool jw, .string jd]) := by
        rw [jkv_F, kvGet_F, hg]
        rfl
      have hdr : m.drop i = t :: m.drop (i + 1) := by
        obtain ⟨hlt, he⟩ := List.getElem?_eq_some_iff.1 ht
        rw [← he]
        exact List.drop_eq_getElem_cons hlt
      have hu : (ints .i64 m)[i]? = some (.int .i64 t) := by
        rw [ints_map, List.getElem?_map, ht]
        rfl
      rw [hdr, crash_cons hg] at hi1
      dsimp only at hi1
      cases hjw : jw
      · rw [hjw] at hi1 hj
        rw [if_neg (by simp)] at hi1
        repeat' (first | (refine gL ?_; refine p_val (dst := some 21) rfl (g_ldV (i := i) rfl (ownS_rd h .here) (by omega) hu) ?_) | (refine p_val (dst := some 27) rfl (g_lkp (enc := encI) (v := t) (kv := jkv jobs) keyI rfl rfl (h.pick (by repeat first | exact .here | apply Has.there))) ?_; rw [hj, lkV_f]) | refine stP ?_ | (refine stC2_P11c ?_; rintro _ w ⟨rfl, h⟩) | (refine stC3_P11c ?_; rintro _ w ⟨bx, rfl, h⟩) | (refine stD4_P11c ?_; rintro _ w ⟨rfl, h⟩ <;> refine nowa ?_) | (refine p_cmp rfl rfl rfl rfl (fun hc => ?_) (fun hc => ?_) <;> simp only [cmpProp] at hc) | (refine r_cmp rfl rfl rfl rfl rfl (fun hc => ?_) (fun hc => ?_) <;> simp only [cmpProp] at hc) | (refine x_drawn rfl ?_; have h := h.drew) | refine x_drawn rfl ?_ | fail)
        exact x_keep [0, 1, 16, 17, 18] rfl (ih _ _ _ (by omega) ⟨i + 1, B, ps, qa, ql, qc, rfl, by omega, hi1, hi2, hi3, hi4, rfl, h.pm5⟩)
      · rw [hjw] at hi1 hj
        rw [if_pos rfl] at hi1
        have hrG := hi4 w (h.sub (by repeat first | exact .refl _ | apply Sub.skip))
        have hql := hrG.ilen
        cases ps with
        | nil =>
          obtain rfl : ql = 0 := hql.symm
          repeat' (first | contradiction | (refine gL ?_; refine p_val (dst := some 21) rfl (g_ldV (i := i) rfl (ownS_rd h .here) (by omega) hu) ?_) | (refine p_val (dst := some 27) rfl (g_lkp (enc := encI) (v := t) (kv := jkv jobs) keyI rfl rfl (h.pick (by repeat first | exact .here | apply Has.there))) ?_; rw [hj, lkV_f]) | refine stP ?_ | (refine stC2_P11c ?_; rintro _ w ⟨rfl, h⟩) | (refine stC3_P11c ?_; rintro _ w ⟨bx, rfl, h⟩) | (refine stD4_P11c ?_; rintro _ w ⟨rfl, h⟩ <;> refine nowa ?_) | (refine p_cmp rfl rfl rfl rfl (fun hc => ?_) (fun hc => ?_) <;> simp only [cmpProp] at hc) | (refine r_cmp rfl rfl rfl rfl rfl (fun hc => ?_) (fun hc => ?_) <;> simp only [cmpProp] at hc) | (refine x_drawn rfl ?_; have h := h.drew) | refine x_drawn rfl ?_ | fail)
          exact x_keep [0, 1, 16, 17, 18] rfl (ih _ _ _ (by omega) ⟨i + 1, B, [], qa, 0, qc, rfl, by omega, hi1, hi2, hi3, hi4, rfl, h.pm5⟩)
        | cons q ps =>
          obtain ⟨qb, qo, rfl⟩ := hrG.addr (by rw [← hql]; exact Nat.succ_pos _)
          have hqc := hrG.len.2
          rw [List.length_cons] at hql
          have hq9 := hi3 q (List.mem_cons_self ..)
          have hi3' : ∀ p ∈ ps, p ≤ 9223372036854775807 := fun p hp => hi3 p (List.mem_cons_of_mem _ hp)
          have hi4' : ∀ w, Sat S w G → RdS w 1 (.slice (if qc = 1 then some ⟨qb, qo, none⟩ else (some (⟨qb, qo, none⟩ : Addr)).map (·.add (1 * 1))) (ql - 1) (qc - 1)) (ints .i64 ps) := by
            intro w h
            have := (hi4 w h).sub (l' := 1) (h' := ql) (by omega) (Nat.le_refl _)
            rw [List.take_of_length_le (by rw [ints_length, List.length_cons]; omega)] at this
            exact this
          have hi1 : crashGo jobs m picks blks = crashGo jobs (m.drop (i + 1)) ps (crash1 ⟨ja, jn, true, jd⟩ q B) := hi1
          have hB' : ∀ z, ∀ p ∈ crash1 ⟨ja, jn, true, jd⟩ z B, p.2.size ≤ 131072 := fun z => crash1_size hjd hi2
          by_cases q1 : q = 1
          · subst q1
            have e1 : crash1 ⟨ja, jn, true, jd⟩ 1 B = putL (ja, jn) jd B := rfl
            have hb' := hB' 1
            rw [e1] at hi1 hb'
            repeat' (first | contradiction | (refine gL ?_; refine p_val (dst := some 21) rfl (g_ldV (i := i) rfl (ownS_rd h .here) (by omega) hu) ?_) | (refine p_val (dst := some 27) rfl (g_lkp (enc := encI) (v := t) (kv := jkv jobs) keyI rfl rfl (h.pick (by repeat first | exact .here | apply Has.there))) ?_; rw [hj, lkV_f]) | (refine r_own (dst := some 36) rfl rfl rfl (G := G) (h.sub (by repeat first | exact .refl _ | apply Sub.skip)) (fun w h => g_ldV (i := 0) rfl (hi4 w h) (by omega) rfl) ?_) | (refine r_pure (d := some 38) rfl rfl rfl (fun _ => g_slc (l' := 1) (h' := ql) rfl rfl rfl rfl rfl (by omega) (by omega)) ?_) | (refine r_own rfl rfl rfl h (fun w h => g_ldq (vs := [_, _]) rfl (h.at (by repeat first | exact .here | apply Has.there)) rfl rfl) ?_) | (refine r_do rfl rfl (d_mup (enc := encB) (v := (ja, jn)) (uv := .string jd) (kv := bkv B) keyB rfl rfl rfl (h.pick (by repeat first | exact .here | apply Has.there))) ?_; rintro _ w ⟨rfl, h⟩; refine nowa ?_) | refine stP ?_ | (refine stC2_P11c ?_; rintro _ w ⟨rfl, h⟩) | (refine stC3_P11c ?_; rintro _ w ⟨bx, rfl, h⟩) | (refine stD4_P11c ?_; rintro _ w ⟨rfl, h⟩ <;> refine nowa ?_) | (refine p_cmp rfl rfl rfl rfl (fun hc => ?_) (fun hc => ?_) <;> simp only [cmpProp] at hc) | (refine r_cmp rfl rfl rfl rfl rfl (fun hc => ?_) (fun hc => ?_) <;> simp only [cmpProp] at hc) | (refine x_drawn rfl ?_; have h := h.drew) | refine x_drawn rfl ?_ | fail)
            unfold bkv at h
            rw [kvPut_F] at h
            exact x_keep [0, 1, 16, 17, 18] rfl (ih _ _ _ (by omega) ⟨i + 1, putL (ja, jn) jd B, ps, _, ql - 1, qc - 1, rfl, by omega, hi1, hb', hi3', hi4', rfl, h.pm5⟩)
          · by_cases q2 : 1 < q
            · have e1 : crash1 ⟨ja, jn, true, jd⟩ q B = putL (ja, jn) (tornB ((getL (ja, jn) B).getD ⟨#[]⟩) jd q) B := by
                unfold crash1
                rw [if_neg q1, if_pos q2]
              have hb' := hB' q
              rw [e1] at hi1 hb'
              have hk : kvGet (ja, jn) (bkv B) = _ := kvGet_F _ _ _
              have hws : ((getL (ja, jn) B).getD ⟨#[]⟩).size ≤ 1000000 := by
                cases hgb : getL (ja, jn) B with
                | none => exact Nat.zero_le _
                | some s =>
                  have := hi2 _ (getL_mem hgb)
                  show s.size ≤ 1000000
                  have : s.size ≤ 131072 := this
                  omega
              repeat' (first | contradiction | (refine gL ?_; refine p_val (dst := some 21) rfl (g_ldV (i := i) rfl (ownS_rd h .here) (by omega) hu) ?_) | (refine p_val (dst := some 27) rfl (g_lkp (enc := encI) (v := t) (kv := jkv jobs) keyI rfl rfl (h.pick (by repeat first | exact .here | apply Has.there))) ?_; rw [hj, lkV_f]) | (refine r_own (dst := some 36) rfl rfl rfl (G := G) (h.sub (by repeat first | exact .refl _ | apply Sub.skip)) (fun w h => g_ldV (i := 0) rfl (hi4 w h) (by omega) rfl) ?_) | (refine r_pure (d := some 38) rfl rfl rfl (fun _ => g_slc (l' := 1) (h' := ql) rfl rfl rfl rfl rfl (by omega) (by omega)) ?_) | (refine r_own rfl rfl rfl h (fun w h => g_ldq (vs := [_, _]) rfl (h.at (by repeat first | exact .here | apply Has.there)) rfl rfl) ?_) | (refine r_own (dst := some 65) rfl rfl rfl h (fun w h => g_lkp (enc := encB) (v := (ja, jn)) keyB rfl rfl (h.pick (by repeat first | exact .here | apply Has.there))) ?_; rw [hk, lkV_s]) | refine stP ?_ | (refine stC2_P11c ?_; rintro _ w ⟨rfl, h⟩) | (refine stC3_P11c ?_; rintro _ w ⟨bx, rfl, h⟩) | (refine stD4_P11c ?_; rintro _ w ⟨rfl, h⟩ <;> refine nowa ?_) | (refine p_cmp rfl rfl rfl rfl (fun hc => ?_) (fun hc => ?_) <;> simp only [cmpProp] at hc) | (refine r_cmp rfl rfl rfl rfl rfl (fun hc => ?_) (fun hc => ?_) <;> simp only [cmpProp] at hc) | (refine x_drawn rfl ?_; have h := h.drew) | refine x_drawn rfl ?_ | fail)
              refine r_do rfl rfl (d_mup (enc := encB) (v := (ja, jn)) (uv := .string (tornB ((getL (ja, jn) B).getD ⟨#[]⟩) jd q)) (kv := bkv B) keyB rfl rfl rfl (h.pick (by repeat first | exact .here | apply Has.there))) ?_
              rintro _ w ⟨rfl, h⟩
              refine nowa ?_
              unfold bkv at h
              rw [kvPut_F] at h
              generalize putL (ja, jn) (tornB ((getL (ja, jn) B).getD ⟨#[]⟩) jd q) B = B2 at h hi1 hb'
              clear hB' hws hk
              repeat' (first | refine stPs ?_ | (refine stC2_P11c ?_; rintro _ w ⟨rfl, h⟩) | (refine stC3_P11c ?_; rintro _ w ⟨bx, rfl, h⟩) | (refine stD4_P11c ?_; rintro _ w ⟨rfl, h⟩ <;> refine nowa ?_) | (refine p_cmp rfl rfl rfl rfl (fun hc => ?_) (fun hc => ?_) <;> simp only [cmpProp] at hc) | (refine r_cmp rfl rfl rfl rfl rfl (fun hc => ?_) (fun hc => ?_) <;> simp only [cmpProp] at hc) | (refine x_drawn rfl ?_; have h := h.drew) | refine x_drawn rfl ?_ | fail)
              exact x_keep [0, 1, 16, 17, 18] rfl (ih _ _ _ (by omega) ⟨i + 1, B2, ps, _, ql - 1, qc - 1, rfl, by omega, hi1, hb', hi3', hi4', rfl, h.pm5⟩)
            · have e1 : crash1 ⟨ja, jn, true, jd⟩ q B = B := by
                unfold crash1
                rw [if_neg q1, if_neg q2]
              rw [e1] at hi1
              repeat' (first | contradiction | (refine gL ?_; refine p_val (dst := some 21) rfl (g_ldV (i := i) rfl (ownS_rd h .here) (by omega) hu) ?_) | (refine p_val (dst := some 27) rfl (g_lkp (enc := encI) (v := t) (kv := jkv jobs) keyI rfl rfl (h.pick (by repeat first | exact .here | apply Has.there))) ?_; rw [hj, lkV_f]) | (refine r_own (dst := some 36) rfl rfl rfl (G := G) (h.sub (by repeat first | exact .refl _ | apply Sub.skip)) (fun w h => g_ldV (i := 0) rfl (hi4 w h) (by omega) rfl) ?_) | (refine r_pure (d := some 38) rfl rfl rfl (fun _ => g_slc (l' := 1) (h' := ql) rfl rfl rfl rfl rfl (by omega) (by omega)) ?_) | refine stP ?_ | (refine stC2_P11c ?_; rintro _ w ⟨rfl, h⟩) | (refine stC3_P11c ?_; rintro _ w ⟨bx, rfl, h⟩) | (refine stD4_P11c ?_; rintro _ w ⟨rfl, h⟩ <;> refine nowa ?_) | (refine p_cmp rfl rfl rfl rfl (fun hc => ?_) (fun hc => ?_) <;> simp only [cmpProp] at hc) | (refine r_cmp rfl rfl rfl rfl rfl (fun hc => ?_) (fun hc => ?_) <;> simp only [cmpProp] at hc) | (refine x_drawn rfl ?_; have h := h.drew) | refine x_drawn rfl ?_ | fail)
              exact x_keep [0, 1, 16, 17, 18] rfl (ih _ _ _ (by omega) ⟨i + 1, B, ps, _, ql - 1, qc - 1, rfl, by omega, hi1, hi2, hi3', hi4', rfl, h.pm5⟩)
    · obtain rfl : i = fl := by omega
      rw [List.drop_eq_nil_of_le (by omega), crash_nil] at hi1
      repeat' (first | (refine p_do rfl (d_clr rfl (h.pick (by repeat first | exact .here | apply Has.there))) ?_; intro _ w h) | refine stP ?_ | (refine stC2_P11c ?_; rintro _ w ⟨rfl, h⟩) | (refine stC3_P11c ?_; rintro _ w ⟨bx, rfl, h⟩) | (refine stD4_P11c ?_; rintro _ w ⟨rfl, h⟩ <;> refine nowa ?_) | (refine p_cmp rfl rfl rfl rfl (fun hc => ?_) (fun hc => ?_) <;> simp only [cmpProp] at hc) | (refine r_cmp rfl rfl rfl rfl rfl (fun hc => ?_) (fun hc => ?_) <;> simp only [cmpProp] at hc) | (refine x_drawn rfl ?_; have h := h.drew) | refine x_drawn rfl ?_ | fail)
      exact x_ret' is_device_Device_Crash rfl (.inr ⟨rfl, rfl, m, hm, hs, by rw [hi1]; exact h.pm4⟩)
  · dsimp only at h ⊢
    repeat' (first | contradiction | (refine gC F.device_Device_power ?_; refine p_call rfl rfl (device_Device_power_off (h.rf1)) ?_; rintro _ w ⟨rfl, h⟩) | refine stP ?_ | (refine stC2_P11c ?_; rintro _ w ⟨rfl, h⟩) | (refine stC3_P11c ?_; rintro _ w ⟨bx, rfl, h⟩) | (refine stD4_P11c ?_; rintro _ w ⟨rfl, h⟩ <;> refine nowa ?_) | (refine p_cmp rfl rfl rfl rfl (fun hc => ?_) (fun hc => ?_) <;> simp only [cmpProp] at hc) | (refine r_cmp rfl rfl rfl rfl rfl (fun hc => ?_) (fun hc => ?_) <;> simp only [cmpProp] at hc) | (refine x_drawn rfl ?_; have h := h.drew) | refine x_drawn rfl ?_ | fail)
    exact x_ret' is_device_Device_Crash rfl (.inl ⟨rfl, rfl, h⟩)
end
end Go.Proofs.Ytfchenbihepjaaa
