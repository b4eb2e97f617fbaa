/- Layer 11 (device): what its functions do. -/
import Derived.Test.YtflbfdmmfoigaaaGreatHxS
import Derived.Test.YtflbfdmmfoigaaaGreatP11i
namespace Go.Proofs.YtflbfdmmfoigaaaGreat
open Go Go.HX
attribute [local irreducible] Ret XRun XOps XDr XOne Does Gives
set_option maxRecDepth 4000
set_option maxHeartbeats 1000000
/-! lists of keys and what they have -/
theorem stC0_P11 {goal next : Prop} (k : next) (hs : Hid next → goal := by (intro k; (first | (refine gBx ?_; refine p_do rfl (d_boxL rfl h (by first | (dsimp only [Value.cells]; done) | exact rfl)) ?_) | fail); exact k.out)) : goal := hs ⟨k⟩
theorem stC1_P11 {goal next : Prop} (k : next) (hs : Hid next → goal := by (intro k; (first | (refine gC F.device_Device_power ?_; refine p_call rfl rfl (device_Device_power_spec (h.rf1)) ?_) | (refine gC F.device_Device_power ?_; refine p_call rfl rfl (device_Device_power_nil h) ?_) | (refine gS ?_; (first | refine p_do rfl (d_stwL rfl rfl rfl rfl rfl (h.pick (by repeat first | exact .here | apply Has.there)) (by first | (dsimp only [Value.cells]; done) | exact rfl)) ?_ | refine p_do rfl (d_stL rfl rfl rfl (h.pick (by repeat first | exact .here | apply Has.there)) (by first | exact of_decide_eq_true rfl | simp) (by first | (dsimp only [List.set]; done) | exact rfl)) ?_)) | fail); exact k.out)) : goal := hs ⟨k⟩
theorem stC2_P11 {goal next : Prop} (k : next) (hs : Hid next → goal := by (intro k; (first | (refine gC F.device_may ?_; refine p_call rfl rfl (device_may_spec _ _ h) ?_) | fail); exact k.out)) : goal := hs ⟨k⟩
theorem stC3_P11 {goal next : Prop} (k : next) (hs : Hid next → goal := by (intro k; (first | (refine gC F.maps_Values_map_int_device_job_int_device_job ?_; refine p_call rfl rfl (maps_Values_map_int_device_job_int_device_job_spec _ (h.rf1)) ?_) | fail); exact k.out)) : goal := hs ⟨k⟩
theorem stC4_P11 {goal next : Prop} (k : next) (hs : Hid next → goal := by (intro k; (first | (refine gC F.slices_Collect_device_job ?_; refine p_call rfl rfl (slices_Collect_device_job_spec _ ?_ (h.rf2)) ?_; iterate 1 (first | assumption | omega | (simp only []; omega) | decide)) | fail); exact k.out)) : goal := hs ⟨k⟩
section
variable {κ α : Type} [DecidableEq κ]
def getL (v : κ) (l : List (κ × α)) : Option α := (l.find? (fun p => decide (p.1 = v))).map (·.2)
def putL (v : κ) (u : α) (l : List (κ × α)) : List (κ × α) := match l.findIdx? (fun p => decide (p.1 = v)) with
  | some i => l.set i (v, u)
  | none => l ++ [(v, u)]
def delL (v : κ) (l : List (κ × α)) : List (κ × α) := match l.findIdx? (fun p => decide (p.1 = v)) with
  | some i => l.eraseIdx i
  | none => l
def mapF (f : α → Value) (l : List (κ × α)) : List (κ × Value) := l.map (fun p => (p.1, f p.2))
theorem kvAt_F (f : α → Value) (v : κ) (l : List (κ × α)) : kvAt v (mapF f l) = l.findIdx? (fun p => decide (p.1 = v)) := by
  unfold kvAt mapF
  rw [List.findIdx?_map]
  rfl
theorem find_idx (v : κ) : ∀ (l : List (κ × α)), l.find? (fun p => decide (p.1 = v)) = (l.findIdx? (fun p => decide (p.1 = v))).bind (fun i => l[i]?)
  | [] => rfl
  | p :: l => by
    rw [List.find?_cons, List.findIdx?_cons]
    by_cases h : p.1 = v
    · simp [h]
    · simp only [h, decide_false]
      rw [find_idx v l]
      cases l.findIdx? (fun p => decide (p.1 = v)) <;> simp
theorem kvGet_F (f : α → Value) (v : κ) (l : List (κ × α)) : kvGet v (mapF f l) = (getL v l).map f := by
  unfold kvGet getL
  rw [kvAt_F, find_idx]
  cases l.findIdx? (fun p => decide (p.1 = v)) with
  | none => rfl
  | some i =>
    unfold mapF
    simp only [Option.bind_some, List.getElem?_map]
    cases l[i]? <;> rfl
theorem kvPut_F (f : α → Value) (v : κ) (u : α) (l : List (κ × α)) : kvPut v (f u) (mapF f l) = mapF f (putL v u l) := by
  unfold kvPut putL
  rw [kvAt_F]
  cases l.findIdx? (fun p => decide (p.1 = v)) with
  | none => unfold mapF; simp
  | some i => unfold mapF; rw [List.map_set]
theorem kvDel_F (f : α → Value) (v : κ) (l : List (κ × α)) : kvDel v (mapF f l) = mapF f (delL v l) := by
  unfold kvDel delL
  rw [kvAt_F]
  cases l.findIdx? (fun p => decide (p.1 = v)) with
  | none => rfl
  | some i => unfold mapF; rw [map_erase]
end
/-! the model -/
structure AnsM where
  data : ByteArray
  no : Bool
def ansV (a : AnsM) : Value := .agg #[.string a.data, .bool a.no]
abbrev BL := List ((Int × Int) × ByteArray)
abbrev AL := List (Int × AnsM)
def bkv (l : BL) : List ((Int × Int) × Value) := mapF (fun s => .string s) l
def akv (l : AL) : List (Int × Value) := mapF ansV l
theorem jkv_F (l : JL) : jkv l = mapF jobV l := rfl
structure DevM where
  off : Bool
  blks : BL
  jobs : JL
  anss : AL
  last : Int
-- MACRO DV(x) = pt d (.cells #[.bool (x).off, .map (some bb), .map (some jb), .map (some ab), .int .i64 (x).last] T.device_Device (0, 0)) :: isMap encB bb (bkv (x).blks) :: isMap encI jb (jkv (x).jobs) :: isMap encI ab (akv (x).anss)
def mayB (a n : Int) : Prop := 0 ≤ a ∧ a ≤ 2 ∧ 0 ≤ n ∧ n < 64
instance (a n : Int) : Decidable (mayB a n) := by unfold mayB; infer_instance
def sameB (j x : JobM) : Bool := x.wr && decide (x.area = j.area ∧ x.no = j.no)
def askR (x : DevM) (j : JobM) : (Int × Int) × DevM :=
  if x.off = true then ((0, 6), x)
  else if ¬ mayB j.area j.no then ((0, 1), x)
  else if 131072 < j.data.size then ((0, 5), x)
  else if j.wr = true ∧ ∃ p ∈ x.jobs, sameB j p.2 = true then ((0, 10), x)
  else if 32 ≤ x.jobs.length then ((0, 9), x)
  else ((x.last + 1, 0), { x with last := x.last + 1, jobs := putL (x.last + 1) j x.jobs })
structure DevOk (x : DevM) : Prop where
  last0 : 0 ≤ x.last
  last1 : x.last ≤ 1000000
  jobs : x.jobs.length ≤ 1000
def findJ (p : JobM → Bool) (l : List JobM) : Int := match l.findIdx? p with
  | some i => i
  | none => -1
theorem findJ_step {p : JobM → Bool} {l : List JobM} {i : Nat} {x : JobM} (hx : l[i]? = some x) (hn : ∀ j y, j < i → l[j]? = some y → p y = false) (hp : p x = true) : findJ p l = i := by
  have hi : i < l.length := (List.getElem?_eq_some_iff.1 hx).1
  have : l.findIdx? p = some i := by
    rw [List.findIdx?_eq_some_iff_getElem]
    refine ⟨hi, by rw [(List.getElem?_eq_some_iff.1 hx).2]; exact hp, fun j hj => ?_⟩
    simpa using hn j _ hj (List.getElem?_eq_getElem (by omega))
  unfold findJ
  rw [this]
theorem findJ_none {p : JobM → Bool} {l : List JobM} (hn : ∀ j y, j < l.length → l[j]? = some y → p y = false) : findJ p l = -1 := by
  have : l.findIdx? p = none := by
    rw [List.findIdx?_eq_none_iff]
    intro x hx
    obtain ⟨j, hj⟩ := List.getElem?_of_mem hx
    exact hn j x (List.getElem?_eq_some_iff.1 hj).1 hj
  unfold findJ
  rw [this]
theorem findJ_iff {p : JobM → Bool} {l : List JobM} : 0 ≤ findJ p l ↔ ∃ e ∈ l, p e = true := by
  unfold findJ
  cases h : l.findIdx? p with
  | none =>
    rw [List.findIdx?_eq_none_iff] at h
    refine ⟨fun e => absurd e (by decide), fun ⟨e, he, hp⟩ => ?_⟩
    rw [h e he] at hp
    cases hp
  | some i =>
    obtain ⟨hi, hp, _⟩ := List.findIdx?_eq_some_iff_getElem.1 h
    exact ⟨fun _ => ⟨_, List.getElem_mem hi, hp⟩, fun _ => by show (0 : Int) ≤ (i : Int); omega⟩
section
variable {S : SP} {w : World} {G : List HProp}

theorem device_New_spec (h : Sat S w G) : Ret Tryz.prog F.device_New #[] w (fun v w' => ∃ d bb jb ab, v = .pointer (some ⟨d, 0, none⟩) ∧ Sat S w' (pt d (.cells #[.bool (({ off := false, blks := [], jobs := [], anss := [], last := 0 } : DevM)).off, .map (some bb), .map (some jb), .map (some ab), .int .i64 (({ off := false, blks := [], jobs := [], anss := [], last := 0 } : DevM)).last] T.device_Device (0, 0)) :: isMap encB bb (bkv (({ off := false, blks := [], jobs := [], anss := [], last := 0 } : DevM)).blks) :: isMap encI jb (jkv (({ off := false, blks := [], jobs := [], anss := [], last := 0 } : DevM)).jobs) :: isMap encI ab (akv (({ off := false, blks := [], jobs := [], anss := [], last := 0 } : DevM)).anss) :: G)) := by
  refine ret_of is_device_New rfl ?_
  repeat' (first | (refine p_do (dst := some 1) rfl (d_mkm encB h) ?_; rintro _ w ⟨bb, rfl, h⟩) | (refine p_do (dst := some 2) rfl (d_mkm encI h) ?_; rintro _ w ⟨jb, rfl, h⟩) | (refine p_do (dst := some 3) rfl (d_mkm encI h) ?_; rintro _ w ⟨ab, rfl, h⟩) | refine stP ?_ | (refine stC0_P11 ?_; rintro _ w ⟨bx, rfl, h⟩) | fail)
  exact x_ret' is_device_New rfl ⟨_, _, _, _, rfl, h.pm4⟩

theorem device_Device_power_spec {d : Nat} {x1 x2 x3 x4 : Value} (h : Sat S w (pt d (.cells #[.bool false, x1, x2, x3, x4] T.device_Device (0, 0)) :: G)) : Ret Tryz.prog F.device_Device_power #[.pointer (some ⟨d, 0, none⟩)] w (fun v w' => v = .int .i64 0 ∧ Sat S w' (pt d (.cells #[.bool false, x1, x2, x3, x4] T.device_Device (0, 0)) :: G)) := by
  refine ret_of is_device_Device_power rfl ?_
  repeat' (first | refine stPs ?_ | fail)
  exact x_ret' is_device_Device_power rfl ⟨rfl, h⟩
theorem device_Device_power_off {d : Nat} {x1 x2 x3 x4 : Value} (h : Sat S w (pt d (.cells #[.bool true, x1, x2, x3, x4] T.device_Device (0, 0)) :: G)) : Ret Tryz.prog F.device_Device_power #[.pointer (some ⟨d, 0, none⟩)] w (fun v w' => v = .int .i64 6 ∧ Sat S w' (pt d (.cells #[.bool true, x1, x2, x3, x4] T.device_Device (0, 0)) :: G)) := by
  refine ret_of is_device_Device_power rfl ?_
  repeat' (first | refine stPs ?_ | fail)
  exact x_ret' is_device_Device_power rfl ⟨rfl, h⟩
-- MACRO POFF() = (refine gC F.device_Device_power ?_; refine p_call rfl rfl (device_Device_power_off (h.rf1)) ?_; rintro _ w ⟨rfl, h⟩)
theorem device_Device_power_nil (h : Sat S w G) : Ret Tryz.prog F.device_Device_power #[.pointer none] w (fun v w' => v = .int .i64 2 ∧ Sat S w' G) := by
  refine ret_of is_device_Device_power rfl ?_
  repeat' (first | refine stPs ?_ | fail)
  exact x_ret' is_device_Device_power rfl ⟨rfl, h⟩
theorem device_may_spec (a n : Int) (h : Sat S w G) : Ret Tryz.prog F.device_may #[.agg #[.int .i64 a, .int .i64 n]] w (fun v w' => BoolIs v (mayB a n) ∧ Sat S w' G) := by
  refine ret_of is_device_may rfl ?_
  repeat' (first | refine stPs ?_ | (refine stC0_P11 ?_; rintro _ w ⟨bx, rfl, h⟩) | (refine p_cmp rfl rfl rfl rfl (fun hc => ?_) (fun hc => ?_) <;> simp only [cmpProp] at hc) | fail)
  all_goals refine x_ret' is_device_may rfl ⟨?_, h.drop⟩
  all_goals unfold mayB
  all_goals first | exact .t (by omega) | exact .f (by omega)
theorem device_Device_ask_1_spec {bj : Nat} (j x : JobM) (h : Sat S w (pt bj (.cells #[.int .i64 j.area, .int .i64 j.no, .bool j.wr, .string j.data] T.device_job (0, 0)) :: G)) : Ret Tryz.prog F.device_Device_ask_1 #[.agg #[.int .i64 x.area, .int .i64 x.no, .bool x.wr, .string x.data], .pointer (some ⟨bj, 0, none⟩)] w (fun v w' => v = .bool (sameB j x) ∧ Sat S w' (pt bj (.cells #[.int .i64 j.area, .int .i64 j.no, .bool j.wr, .string j.data] T.device_job (0, 0)) :: G)) := by
  refine ret_of is_device_Device_ask_1 rfl ?_
  obtain ⟨xa, xn, xw, xd⟩ := x
  unfold sameB
  cases xw
  · repeat' (first | refine stPs ?_ | (refine stC0_P11 ?_; rintro _ w ⟨bx, rfl, h⟩) | refine p_eqa rfl rfl rfl rfl rfl rfl (fun hc => ?_) (fun hc => ?_) | fail)
    exact x_ret' is_device_Device_ask_1 rfl ⟨rfl, h.drop⟩
  · repeat' (first | (refine p_val rfl (g_ldq (vs := [_, _]) rfl (h.at (by repeat first | exact .here | apply Has.there)) rfl rfl) ?_) | refine stP ?_ | (refine stC0_P11 ?_; rintro _ w ⟨bx, rfl, h⟩) | refine p_eqa rfl rfl rfl rfl rfl rfl (fun hc => ?_) (fun hc => ?_) | fail)
    all_goals refine x_ret' is_device_Device_ask_1 rfl ⟨?_, h.drop⟩
    all_goals show Value.bool _ = Value.bool (true && decide (xa = j.area ∧ xn = j.no))
    all_goals simp at hc
    · rw [decide_eq_true hc]; rfl
    · rw [decide_eq_false (fun hx => hc hx.1 hx.2)]; rfl
theorem slices_IndexFunc_device_job_device_job_spec {v : Value} {f : FuncId} {fs cs : Array Value} (l : List JobM) (p : JobM → Bool) (hbd : bodyOk Tryz.prog f = true) (hl : l.length ≤ 1000000) (hp : ∀ x ∈ l, ∀ w, Sat S w G → Ret Tryz.prog f (fs ++ #[.agg (jobC x).toArray] ++ cs) w (fun u w' => u = .bool (p x) ∧ Sat S w' G)) (hr : ∀ w, Sat S w G → RdS w 4 v (rows jobC l)) (h : Sat S w G) :
    Ret Tryz.prog F.slices_IndexFunc_device_job_device_job #[v, .func (.func f) fs cs] w (fun u w' => u = .int .i64 (findJ p l) ∧ Sat S w' G) := by
  obtain ⟨a, len, cap, rfl, _⟩ := hr w h
  have hlen := (hr w h).rlen jobC_len (by decide)
  refine ret_of is_slices_IndexFunc_device_job_device_job rfl ?_
  repeat' (first | refine stPs ?_ | (refine p_cmp rfl rfl rfl rfl (fun hc => ?_) (fun hc => ?_) <;> simp only [cmpProp] at hc) | fail)
  refine x_keep [0, 1, 7, 8] rfl ?_
  refine x_loop_inv (fun lm le w => ∃ (i : Nat), lm = len - i ∧ i ≤ len ∧ (∀ j y, j < i → l[j]? = some y → p y = false) ∧ le = [(0, .slice a len cap), (1, .func (.func f) fs cs), (7, .int .i64 len), (8, .int .i64 i)] ∧ Sat S w (G)) (len) ⟨0, rfl, by omega, fun j y hj => by omega, rfl, h⟩ ?_
  clear h
  rintro lm le w ⟨i, rfl, hi0, hi1, rfl, h⟩ ih
  by_cases hi : i < len
  · obtain ⟨x, hx⟩ := has_elem (show i < l.length by omega)
    obtain ⟨pa, po, rfl⟩ := (hr w h).addr (by omega)
    repeat' (first | (refine gL ?_; refine p_val rfl (g_ldE (i := i) jobC_len rfl (hr _ h) hx (by omega)) ?_) | refine stP ?_ | (refine p_cmp rfl rfl rfl rfl (fun hc => ?_) (fun hc => ?_) <;> simp only [cmpProp] at hc) | fail)
    refine p_cv rfl rfl hbd rfl (hp x (List.mem_of_getElem? hx) _ h) ?_
    rintro _ w ⟨rfl, h⟩
    cases hpx : p x
    · repeat' (first | refine stPs ?_ | (refine p_cmp rfl rfl rfl rfl (fun hc => ?_) (fun hc => ?_) <;> simp only [cmpProp] at hc) | fail)
      exact x_keep [0, 1, 7, 8] rfl (ih _ _ _ (by omega) ⟨i + 1, rfl, by omega, fun j y hj hy => by
        rcases Nat.lt_or_ge j i with hji | hji
        · exact hi1 j y hji hy
        · obtain rfl : j = i := by omega
          rw [hx] at hy
          cases hy
          exact hpx, rfl, h⟩)
    · repeat' (first | refine stPs ?_ | (refine p_cmp rfl rfl rfl rfl (fun hc => ?_) (fun hc => ?_) <;> simp only [cmpProp] at hc) | fail)
      exact x_ret' is_slices_IndexFunc_device_job_device_job rfl ⟨by rw [findJ_step hx hi1 hpx]; rfl, h⟩
  · repeat' (first | refine stPs ?_ | (refine p_cmp rfl rfl rfl rfl (fun hc => ?_) (fun hc => ?_) <;> simp only [cmpProp] at hc) | fail)
    exact x_ret' is_slices_IndexFunc_device_job_device_job rfl ⟨by rw [findJ_none (fun j y hj => hi1 j y (by omega))]; rfl, h⟩
theorem slices_ContainsFunc_device_job_device_job_spec {v : Value} {f : FuncId} {fs cs : Array Value} (l : List JobM) (p : JobM → Bool) (hbd : bodyOk Tryz.prog f = true) (hl : l.length ≤ 1000000) (hp : ∀ x ∈ l, ∀ w, Sat S w G → Ret Tryz.prog f (fs ++ #[.agg (jobC x).toArray] ++ cs) w (fun u w' => u = .bool (p x) ∧ Sat S w' G)) (hr : ∀ w, Sat S w G → RdS w 4 v (rows jobC l)) (h : Sat S w G) :
    Ret Tryz.prog F.slices_ContainsFunc_device_job_device_job #[v, .func (.func f) fs cs] w (fun u w' => BoolIs u (∃ e ∈ l, p e = true) ∧ Sat S w' G) := by
  obtain ⟨a, len, cap, rfl, _⟩ := hr w h
  refine ret_of is_slices_ContainsFunc_device_job_device_job rfl ?_
  have hf := findJ_iff (p := p) (l := l)
  repeat' (first | (refine gC F.slices_IndexFunc_device_job_device_job ?_; refine p_call rfl rfl (slices_IndexFunc_device_job_device_job_spec l p hbd hl hp hr h) ?_; rintro _ w ⟨rfl, h⟩) | refine stP ?_ | (refine p_cmp rfl rfl rfl rfl (fun hc => ?_) (fun hc => ?_) <;> simp only [cmpProp] at hc) | fail)
  · exact x_ret' is_slices_ContainsFunc_device_job_device_job rfl ⟨.t (hf.1 (by omega)), h⟩
  · exact x_ret' is_slices_ContainsFunc_device_job_device_job rfl ⟨.f (fun hx => by have := hf.2 hx; omega), h⟩
theorem jkv_len (l : JL) : (jkv l).length = l.length := by unfold jkv; rw [List.length_map]
theorem same_iff {xs : List JobM} {jobs : JL} (q : JobM → Bool) (h : xs.Perm (jobs.map (·.2))) : (∃ e ∈ xs, q e = true) ↔ ∃ p ∈ jobs, q p.2 = true := by
  constructor
  · rintro ⟨e, he, hq⟩
    obtain ⟨p, hp, rfl⟩ := List.mem_map.1 (h.mem_iff.1 he)
    exact ⟨p, hp, hq⟩
  · rintro ⟨p, hp, hq⟩
    exact ⟨p.2, h.mem_iff.2 (List.mem_map.2 ⟨p, hp, rfl⟩), hq⟩
-- MACRO CONT() = (refine gC F.slices_ContainsFunc_device_job_device_job ?_; refine p_call rfl rfl (slices_ContainsFunc_device_job_device_job_spec (f := F.device_Device_ask_1) (fs := #[]) (cs := #[.pointer (some ⟨bx, 0, none⟩)]) xs (sameB ⟨ja, jn, true, jd⟩) bd_device_Device_ask_1 (by have := hq1.length_eq; rw [List.length_map] at this; omega) (fun x _ w h => device_Device_ask_1_spec ⟨ja, jn, true, jd⟩ x h) (fun w h => ownS_rd h (.there .here)) (h.sub (.cons (by repeat first | exact .here | apply Has.there) (.refl _)))) ?_; rw [same_iff _ hq1]; rintro _ w ⟨(⟨rfl, hb⟩ | ⟨rfl, hb⟩), h⟩)
-- MACRO LDQ() = (refine p_val rfl (g_ldq (vs := [_, _]) rfl (h.at (by repeat first | exact .here | apply Has.there)) rfl rfl) ?_)
-- MACRO LENM() = (refine p_val rfl (g_lenM rfl (h.pick (by repeat first | exact .here | apply Has.there))) ?_; rw [jkv_len])
-- MACRO PUTJ(k, j) = (refine r_do rfl rfl (d_mup (enc := encI) (v := k) (uv := jobV j) keyI rfl rfl rfl (h.pick (by repeat first | exact .here | apply Has.there))) ?_; rintro _ w ⟨rfl, h⟩; refine nowa ?_)
set_option maxHeartbeats 8000000 in
theorem device_Device_ask_spec {d bb jb ab : Nat} (x : DevM) (j : JobM) (hx : DevOk x) (h : Sat S w (pt d (.cells #[.bool (x).off, .map (some bb), .map (some jb), .map (some ab), .int .i64 (x).last] T.device_Device (0, 0)) :: isMap encB bb (bkv (x).blks) :: isMap encI jb (jkv (x).jobs) :: isMap encI ab (akv (x).anss) :: G)) : Ret Tryz.prog F.device_Device_ask #[.pointer (some ⟨d, 0, none⟩), .agg #[.int .i64 j.area, .int .i64 j.no, .bool j.wr, .string j.data]] w (fun v w' => v = .tuple #[.int .i64 (askR x j).1.1, .int .i64 (askR x j).1.2] ∧ Sat S w' (pt d (.cells #[.bool ((askR x j).2).off, .map (some bb), .map (some jb), .map (some ab), .int .i64 ((askR x j).2).last] T.device_Device (0, 0)) :: isMap encB bb (bkv ((askR x j).2).blks) :: isMap encI jb (jkv ((askR x j).2).jobs) :: isMap encI ab (akv ((askR x j).2).anss) :: G)) := by
  obtain ⟨l0, l1, lj⟩ := hx
  obtain ⟨off, blks, jobs, anss, last⟩ := x
  obtain ⟨ja, jn, jw, jd⟩ := j
  dsimp only at l0 l1 lj
  refine ret_of is_device_Device_ask rfl ?_
  unfold askR
  cases off
  · dsimp only at h ⊢
    rw [if_neg (by simp)]
    by_cases hm : mayB ja jn
    · rw [if_neg (by simp [hm])]
      by_cases hs : 131072 < jd.size
      · rw [if_pos hs]
        repeat' (first | contradiction | (refine p_val rfl (g_ldq (vs := [_, _]) rfl (h.at (by repeat first | exact .here | apply Has.there)) rfl rfl) ?_) | refine stP ?_ | (refine stC1_P11 ?_; rintro _ w ⟨rfl, h⟩) | (refine stC2_P11 ?_; rintro _ w ⟨(⟨rfl, hb⟩ | ⟨rfl, hb⟩), h⟩) | (refine stC3_P11 ?_; rintro _ w ⟨bm, rfl, h⟩) | (refine stC4_P11 ?_; rintro v w ⟨xs, hq1, h⟩) | (refine stC0_P11 ?_; rintro _ w ⟨bx, rfl, h⟩) | (refine p_cmp rfl rfl rfl rfl (fun hc => ?_) (fun hc => ?_) <;> simp only [cmpProp] at hc) | (refine r_cmp rfl rfl rfl rfl rfl (fun hc => ?_) (fun hc => ?_) <;> simp only [cmpProp] at hc) | (refine x_drawn rfl ?_; have h := h.drew) | refine x_drawn rfl ?_ | fail)
        exact x_ret' is_device_Device_ask rfl ⟨rfl, h.pm4⟩
      · rw [if_neg hs]
        cases jw
        · rw [if_neg (by simp)]
          by_cases hf : 32 ≤ jobs.length
          · rw [if_pos hf]
            repeat' (first | contradiction | (refine p_val rfl (g_ldq (vs := [_, _]) rfl (h.at (by repeat first | exact .here | apply Has.there)) rfl rfl) ?_) | (refine p_val rfl (g_lenM rfl (h.pick (by repeat first | exact .here | apply Has.there))) ?_; rw [jkv_len]) | refine stP ?_ | (refine stC1_P11 ?_; rintro _ w ⟨rfl, h⟩) | (refine stC2_P11 ?_; rintro _ w ⟨(⟨rfl, hb⟩ | ⟨rfl, hb⟩), h⟩) | (refine stC3_P11 ?_; rintro _ w ⟨bm, rfl, h⟩) | (refine stC4_P11 ?_; rintro v w ⟨xs, hq1, h⟩) | (refine stC0_P11 ?_; rintro _ w ⟨bx, rfl, h⟩) | (refine p_cmp rfl rfl rfl rfl (fun hc => ?_) (fun hc => ?_) <;> simp only [cmpProp] at hc) | (refine r_cmp rfl rfl rfl rfl rfl (fun hc => ?_) (fun hc => ?_) <;> simp only [cmpProp] at hc) | (refine x_drawn rfl ?_; have h := h.drew) | refine x_drawn rfl ?_ | fail)
            exact x_ret' is_device_Device_ask rfl ⟨rfl, h.pm4⟩
          · rw [if_neg hf]
            repeat' (first | contradiction | (refine p_val rfl (g_ldq (vs := [_, _]) rfl (h.at (by repeat first | exact .here | apply Has.there)) rfl rfl) ?_) | (refine p_val rfl (g_lenM rfl (h.pick (by repeat first | exact .here | apply Has.there))) ?_; rw [jkv_len]) | (refine r_do rfl rfl (d_mup (enc := encI) (v := last + 1) (uv := jobV ⟨ja, jn, false, jd⟩) keyI rfl rfl rfl (h.pick (by repeat first | exact .here | apply Has.there))) ?_; rintro _ w ⟨rfl, h⟩; refine nowa ?_) | refine stP ?_ | (refine stC1_P11 ?_; rintro _ w ⟨rfl, h⟩) | (refine stC2_P11 ?_; rintro _ w ⟨(⟨rfl, hb⟩ | ⟨rfl, hb⟩), h⟩) | (refine stC3_P11 ?_; rintro _ w ⟨bm, rfl, h⟩) | (refine stC4_P11 ?_; rintro v w ⟨xs, hq1, h⟩) | (refine stC0_P11 ?_; rintro _ w ⟨bx, rfl, h⟩) | (refine p_cmp rfl rfl rfl rfl (fun hc => ?_) (fun hc => ?_) <;> simp only [cmpProp] at hc) | (refine r_cmp rfl rfl rfl rfl rfl (fun hc => ?_) (fun hc => ?_) <;> simp only [cmpProp] at hc) | (refine x_drawn rfl ?_; have h := h.drew) | refine x_drawn rfl ?_ | fail)
            rw [jkv_F, kvPut_F, ← jkv_F] at h
            exact x_ret' is_device_Device_ask rfl ⟨rfl, h.pm4⟩
        · by_cases hb0 : ∃ p ∈ jobs, sameB ⟨ja, jn, true, jd⟩ p.2 = true
          · rw [if_pos ⟨rfl, hb0⟩]
            repeat' (first | contradiction | (refine p_val rfl (g_ldq (vs := [_, _]) rfl (h.at (by repeat first | exact .here | apply Has.there)) rfl rfl) ?_) | (refine p_val rfl (g_lenM rfl (h.pick (by repeat first | exact .here | apply Has.there))) ?_; rw [jkv_len]) | (refine gC F.slices_ContainsFunc_device_job_device_job ?_; refine p_call rfl rfl (slices_ContainsFunc_device_job_device_job_spec (f := F.device_Device_ask_1) (fs := #[]) (cs := #[.pointer (some ⟨bx, 0, none⟩)]) xs (sameB ⟨ja, jn, true, jd⟩) bd_device_Device_ask_1 (by have := hq1.length_eq; rw [List.length_map] at this; omega) (fun x _ w h => device_Device_ask_1_spec ⟨ja, jn, true, jd⟩ x h) (fun w h => ownS_rd h (.there .here)) (h.sub (.cons (by repeat first | exact .here | apply Has.there) (.refl _)))) ?_; rw [same_iff _ hq1]; rintro _ w ⟨(⟨rfl, hb⟩ | ⟨rfl, hb⟩), h⟩) | refine stP ?_ | (refine stC1_P11 ?_; rintro _ w ⟨rfl, h⟩) | (refine stC2_P11 ?_; rintro _ w ⟨(⟨rfl, hb⟩ | ⟨rfl, hb⟩), h⟩) | (refine stC3_P11 ?_; rintro _ w ⟨bm, rfl, h⟩) | (refine stC4_P11 ?_; rintro v w ⟨xs, hq1, h⟩) | (refine stC0_P11 ?_; rintro _ w ⟨bx, rfl, h⟩) | (refine p_cmp rfl rfl rfl rfl (fun hc => ?_) (fun hc => ?_) <;> simp only [cmpProp] at hc) | (refine r_cmp rfl rfl rfl rfl rfl (fun hc => ?_) (fun hc => ?_) <;> simp only [cmpProp] at hc) | (refine x_drawn rfl ?_; have h := h.drew) | refine x_drawn rfl ?_ | fail)
            exact x_ret' is_device_Device_ask rfl ⟨rfl, h.pm4⟩
          · rw [if_neg (fun hx => hb0 hx.2)]
            by_cases hf : 32 ≤ jobs.length
            · rw [if_pos hf]
              repeat' (first | contradiction | (refine p_val rfl (g_ldq (vs := [_, _]) rfl (h.at (by repeat first | exact .here | apply Has.there)) rfl rfl) ?_) | (refine p_val rfl (g_lenM rfl (h.pick (by repeat first | exact .here | apply Has.there))) ?_; rw [jkv_len]) | (refine gC F.slices_ContainsFunc_device_job_device_job ?_; refine p_call rfl rfl (slices_ContainsFunc_device_job_device_job_spec (f := F.device_Device_ask_1) (fs := #[]) (cs := #[.pointer (some ⟨bx, 0, none⟩)]) xs (sameB ⟨ja, jn, true, jd⟩) bd_device_Device_ask_1 (by have := hq1.length_eq; rw [List.length_map] at this; omega) (fun x _ w h => device_Device_ask_1_spec ⟨ja, jn, true, jd⟩ x h) (fun w h => ownS_rd h (.there .here)) (h.sub (.cons (by repeat first | exact .here | apply Has.there) (.refl _)))) ?_; rw [same_iff _ hq1]; rintro _ w ⟨(⟨rfl, hb⟩ | ⟨rfl, hb⟩), h⟩) | refine stP ?_ | (refine stC1_P11 ?_; rintro _ w ⟨rfl, h⟩) | (refine stC2_P11 ?_; rintro _ w ⟨(⟨rfl, hb⟩ | ⟨rfl, hb⟩), h⟩) | (refine stC3_P11 ?_; rintro _ w ⟨bm, rfl, h⟩) | (refine stC4_P11 ?_; rintro v w ⟨xs, hq1, h⟩) | (refine stC0_P11 ?_; rintro _ w ⟨bx, rfl, h⟩) | (refine p_cmp rfl rfl rfl rfl (fun hc => ?_) (fun hc => ?_) <;> simp only [cmpProp] at hc) | (refine r_cmp rfl rfl rfl rfl rfl (fun hc => ?_) (fun hc => ?_) <;> simp only [cmpProp] at hc) | (refine x_drawn rfl ?_; have h := h.drew) | refine x_drawn rfl ?_ | fail)
              exact x_ret' is_device_Device_ask rfl ⟨rfl, h.pm4⟩
            · rw [if_neg hf]
              repeat' (first | contradiction | (refine p_val rfl (g_ldq (vs := [_, _]) rfl (h.at (by repeat first | exact .here | apply Has.there)) rfl rfl) ?_) | (refine p_val rfl (g_lenM rfl (h.pick (by repeat first | exact .here | apply Has.there))) ?_; rw [jkv_len]) | (refine gC F.slices_ContainsFunc_device_job_device_job ?_; refine p_call rfl rfl (slices_ContainsFunc_device_job_device_job_spec (f := F.device_Device_ask_1) (fs := #[]) (cs := #[.pointer (some ⟨bx, 0, none⟩)]) xs (sameB ⟨ja, jn, true, jd⟩) bd_device_Device_ask_1 (by have := hq1.length_eq; rw [List.length_map] at this; omega) (fun x _ w h => device_Device_ask_1_spec ⟨ja, jn, true, jd⟩ x h) (fun w h => ownS_rd h (.there .here)) (h.sub (.cons (by repeat first | exact .here | apply Has.there) (.refl _)))) ?_; rw [same_iff _ hq1]; rintro _ w ⟨(⟨rfl, hb⟩ | ⟨rfl, hb⟩), h⟩) | (refine r_do rfl rfl (d_mup (enc := encI) (v := last + 1) (uv := jobV ⟨ja, jn, true, jd⟩) keyI rfl rfl rfl (h.pick (by repeat first | exact .here | apply Has.there))) ?_; rintro _ w ⟨rfl, h⟩; refine nowa ?_) | refine stP ?_ | (refine stC1_P11 ?_; rintro _ w ⟨rfl, h⟩) | (refine stC2_P11 ?_; rintro _ w ⟨(⟨rfl, hb⟩ | ⟨rfl, hb⟩), h⟩) | (refine stC3_P11 ?_; rintro _ w ⟨bm, rfl, h⟩) | (refine stC4_P11 ?_; rintro v w ⟨xs, hq1, h⟩) | (refine stC0_P11 ?_; rintro _ w ⟨bx, rfl, h⟩) | (refine p_cmp rfl rfl rfl rfl (fun hc => ?_) (fun hc => ?_) <;> simp only [cmpProp] at hc) | (refine r_cmp rfl rfl rfl rfl rfl (fun hc => ?_) (fun hc => ?_) <;> simp only [cmpProp] at hc) | (refine x_drawn rfl ?_; have h := h.drew) | refine x_drawn rfl ?_ | fail)
              rw [jkv_F, kvPut_F, ← jkv_F] at h
              exact x_ret' is_device_Device_ask rfl ⟨rfl, h.pm4⟩
    · rw [if_pos hm]
      repeat' (first | contradiction | (refine p_val rfl (g_ldq (vs := [_, _]) rfl (h.at (by repeat first | exact .here | apply Has.there)) rfl rfl) ?_) | refine stP ?_ | (refine stC1_P11 ?_; rintro _ w ⟨rfl, h⟩) | (refine stC2_P11 ?_; rintro _ w ⟨(⟨rfl, hb⟩ | ⟨rfl, hb⟩), h⟩) | (refine stC3_P11 ?_; rintro _ w ⟨bm, rfl, h⟩) | (refine stC4_P11 ?_; rintro v w ⟨xs, hq1, h⟩) | (refine stC0_P11 ?_; rintro _ w ⟨bx, rfl, h⟩) | (refine p_cmp rfl rfl rfl rfl (fun hc => ?_) (fun hc => ?_) <;> simp only [cmpProp] at hc) | (refine r_cmp rfl rfl rfl rfl rfl (fun hc => ?_) (fun hc => ?_) <;> simp only [cmpProp] at hc) | (refine x_drawn rfl ?_; have h := h.drew) | refine x_drawn rfl ?_ | fail)
      exact x_ret' is_device_Device_ask rfl ⟨rfl, h.pm4⟩
  · dsimp only at h ⊢
    rw [if_pos rfl]
    repeat' (first | contradiction | (refine gC F.device_Device_power ?_; refine p_call rfl rfl (device_Device_power_off (h.rf1)) ?_; rintro _ w ⟨rfl, h⟩) | refine stP ?_ | (refine stC1_P11 ?_; rintro _ w ⟨rfl, h⟩) | (refine stC2_P11 ?_; rintro _ w ⟨(⟨rfl, hb⟩ | ⟨rfl, hb⟩), h⟩) | (refine stC3_P11 ?_; rintro _ w ⟨bm, rfl, h⟩) | (refine stC4_P11 ?_; rintro v w ⟨xs, hq1, h⟩) | (refine stC0_P11 ?_; rintro _ w ⟨bx, rfl, h⟩) | (refine p_cmp rfl rfl rfl rfl (fun hc => ?_) (fun hc => ?_) <;> simp only [cmpProp] at hc) | (refine r_cmp rfl rfl rfl rfl rfl (fun hc => ?_) (fun hc => ?_) <;> simp only [cmpProp] at hc) | (refine x_drawn rfl ?_; have h := h.drew) | refine x_drawn rfl ?_ | fail)
    exact x_ret' is_device_Device_ask rfl ⟨rfl, h.pm4⟩
end
end Go.Proofs.YtflbfdmmfoigaaaGreat
