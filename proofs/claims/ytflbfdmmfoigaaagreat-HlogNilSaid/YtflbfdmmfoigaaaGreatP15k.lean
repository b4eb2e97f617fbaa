/- Layer 15 (hlog): maps of numbers, what is collected from them. -/
import Derived.Test.YtflbfdmmfoigaaaGreatHxS
import Derived.Test.YtflbfdmmfoigaaaGreatP11
namespace Go.Proofs.YtflbfdmmfoigaaaGreat
open Go Go.HX
attribute [local irreducible] Ret XRun XOps XDr XOne Does Gives
set_option maxRecDepth 4000
set_option maxHeartbeats 1000000
theorem stC0_P15k {goal next : Prop} (k : next) (hs : Hid next → goal := by (intro k; (first | (refine gC F.slices_Index_int_int ?_; refine p_call rfl rfl (slices_Index_int_int_spec _ _ ?_ (h.rf1)) ?_; iterate 1 (first | assumption | omega | (simp only []; omega) | decide)) | fail); exact k.out)) : goal := hs ⟨k⟩
theorem stC1_P15k {goal next : Prop} (k : next) (hs : Hid next → goal := by (intro k; (first | (refine gBx ?_; refine p_do rfl (d_boxL rfl h (by first | (dsimp only [Value.cells]; done) | exact rfl)) ?_) | fail); exact k.out)) : goal := hs ⟨k⟩
def findZ {α : Type} (p : α → Bool) (l : List α) : Int := match l.findIdx? p with
  | some i => i
  | none => -1
theorem findZ_step {α : Type} {p : α → Bool} {l : List α} {i : Nat} {x : α} (hx : l[i]? = some x) (hn : ∀ j y, j < i → l[j]? = some y → p y = false) (hp : p x = true) : findZ p l = i := by
  have hi : i < l.length := (List.getElem?_eq_some_iff.1 hx).1
  have : l.findIdx? p = some i := by
    rw [List.findIdx?_eq_some_iff_getElem]
    refine ⟨hi, by rw [(List.getElem?_eq_some_iff.1 hx).2]; exact hp, fun j hj => ?_⟩
    simpa using hn j _ hj (List.getElem?_eq_getElem (by omega))
  unfold findZ
  rw [this]
theorem findZ_none {α : Type} {p : α → Bool} {l : List α} (hn : ∀ j y, j < l.length → l[j]? = some y → p y = false) : findZ p l = -1 := by
  have : l.findIdx? p = none := by
    rw [List.findIdx?_eq_none_iff]
    intro x hx
    obtain ⟨j, hj⟩ := List.getElem?_of_mem hx
    exact hn j x (List.getElem?_eq_some_iff.1 hj).1 hj
  unfold findZ
  rw [this]
theorem findZ_mem {l : List Int} {y : Int} : 0 ≤ findZ (fun x => decide (x = y)) l ↔ y ∈ l := by
  unfold findZ
  cases hf : l.findIdx? (fun x => decide (x = y)) with
  | none =>
    rw [List.findIdx?_eq_none_iff] at hf
    simp only [Int.reduceNeg]
    constructor
    · intro h; omega
    · intro h; have := hf y h; simp at this
  | some i =>
    rw [List.findIdx?_eq_some_iff_getElem] at hf
    obtain ⟨hi, hp, _⟩ := hf
    simp only [decide_eq_true_eq] at hp
    constructor
    · intro _; rw [← hp]; exact List.getElem_mem hi
    · intro _; show (0 : Int) ≤ (i : Int); omega
abbrev NL := List (Int × Int)
def nkv (l : NL) : IV := mapF (fun n => .int .i64 n) l
theorem nkv_len (l : NL) : (nkv l).length = l.length := by unfold nkv mapF; rw [List.length_map]
section
variable {S : SP} {w : World} {G : List HProp}
theorem slices_Index_int_int_spec {v : Value} (l : List Int) (y : Int) (hl : l.length ≤ 1000000) (h : Sat S w (ownS T.int 1 v (ints .i64 l) :: G)) :
    Ret Tryz.prog F.slices_Index_int_int #[v, .int .i64 y] w (fun u w' => u = .int .i64 (findZ (fun x => decide (x = y)) l) ∧ Sat S w' (ownS T.int 1 v (ints .i64 l) :: G)) := by
  obtain ⟨a, len, cap, rfl, hlen, _⟩ := ownS_slice h .here
  rw [ints_length, Nat.mul_one] at hlen
  refine ret_of is_slices_Index_int_int rfl ?_
  repeat' (first | refine stPs ?_ | (refine p_cmp rfl rfl rfl rfl (fun hc => ?_) (fun hc => ?_) <;> simp only [cmpProp] at hc) | fail)
  refine x_keep [0, 1, 7, 8] rfl ?_
  refine x_loop_inv (fun lm le w => ∃ (i : Nat), lm = len - i ∧ i ≤ len ∧ (∀ j z, j < i → l[j]? = some z → decide (z = y) = false) ∧ le = [(0, .slice a len cap), (1, .int .i64 y), (7, .int .i64 len), (8, .int .i64 i)] ∧ Sat S w (ownS T.int 1 (.slice a len cap) (ints .i64 l) :: G)) (len) ⟨0, rfl, by omega, fun j y hj => by omega, rfl, h⟩ ?_
  clear h
  rintro lm le w ⟨i, rfl, hi0, hi1, rfl, h⟩ ih
  by_cases hi : i < len
  · obtain ⟨x, hx⟩ := has_elem (show i < l.length by omega)
    obtain ⟨pb, rfl⟩ := ownS_addr h .here (by omega)
    have hg : l.getD i 0 = x := by rw [List.getD_eq_getElem?_getD, hx]; rfl
    repeat' (first | (refine gL ?_; refine p_val rfl (g_ldI (i := i) rfl (ownS_rd h .here) (by omega) (by omega)) ?_; rw [hg]) | refine stP ?_ | (refine p_cmp rfl rfl rfl rfl (fun hc => ?_) (fun hc => ?_) <;> simp only [cmpProp] at hc) | fail)
    · exact x_ret' is_slices_Index_int_int rfl ⟨by rw [findZ_step hx hi1 (decide_eq_true (by omega))]; rfl, h⟩
    · exact x_keep [0, 1, 7, 8] rfl (ih _ _ _ (by omega) ⟨i + 1, rfl, by omega, fun j z hj hz => by
        rcases Nat.lt_or_ge j i with hji | hji
        · exact hi1 j z hji hz
        · obtain rfl : j = i := by omega
          rw [hx] at hz
          cases hz
          exact decide_eq_false (by omega), rfl, h⟩)
  · repeat' (first | refine stPs ?_ | (refine p_cmp rfl rfl rfl rfl (fun hc => ?_) (fun hc => ?_) <;> simp only [cmpProp] at hc) | fail)
    exact x_ret' is_slices_Index_int_int rfl ⟨by rw [findZ_none (fun j y hj => hi1 j y (by omega))]; rfl, h⟩
theorem slices_Contains_int_int_spec {v : Value} (l : List Int) (y : Int) (hl : l.length ≤ 1000000) (h : Sat S w (ownS T.int 1 v (ints .i64 l) :: G)) :
    Ret Tryz.prog F.slices_Contains_int_int #[v, .int .i64 y] w (fun u w' => BoolIs u (y ∈ l) ∧ Sat S w' (ownS T.int 1 v (ints .i64 l) :: G)) := by
  refine ret_of is_slices_Contains_int_int rfl ?_
  have hm := findZ_mem (l := l) (y := y)
  repeat' (first | refine stPs ?_ | (refine stC0_P15k ?_; rintro _ w ⟨rfl, h⟩) | (refine p_cmp rfl rfl rfl rfl (fun hc => ?_) (fun hc => ?_) <;> simp only [cmpProp] at hc) | fail)
  · exact x_ret' is_slices_Contains_int_int rfl ⟨.t (hm.1 (by omega)), h⟩
  · exact x_ret' is_slices_Contains_int_int rfl ⟨.f (fun hx => by have := hm.2 hx; omega), h⟩
theorem perm_came {K V : List Value} {α : Type} {lf lf' : List α} {p : α} (f : α → Value) (h : (K ++ lf.map f).Perm V) (hp : lf.Perm (p :: lf')) : ((K ++ [f p]) ++ lf'.map f).Perm V := by
  refine List.Perm.trans ?_ h
  have := (hp.map f).symm
  rw [List.map_cons] at this
  simp only [List.append_assoc, List.singleton_append]
  exact this.append_left K
theorem int_round {Nm : Nat} (hNm : Nm ≤ 1000000) : ApRound Tryz.prog [⟨some 5, none, .mv (.tmp 7)⟩]
    [⟨some 8, none, .ld (.tmp 2) none⟩, ⟨some 9, none, .mv (.tmp 5)⟩, ⟨some 10, none, .bsl T.int 1 1 [.int .i64 0] [(0, .tmp 9)]⟩, ⟨some 11, none, .app T.int 1 8 [.int .i64 0] (.tmp 8) (.tmp 10)⟩, ⟨none, none, .st (.tmp 2) (.tmp 11) 1⟩] T.slice_int T.int 1 okInt Nm := by
  rintro l Bs S G w x v cs ⟨j, rfl⟩ hlen h
  refine y_val rfl (gives_pure rfl) (y_nil ⟨emp, (Sat_emp.2 h).sub (.cons (.there .here) (.cons (.there .here) (.refl _))), fun w G2 h => ?_⟩)
  refine y_val rfl (g_ld rfl (h.cell .here rfl)) (y_val rfl (gives_pure rfl) ?_)
  refine y_do rfl (d_lit [encI j] rfl rfl rfl rfl rfl h) ?_
  intro v2 w h
  refine y_do rfl (d_appR (cs := cs) (news := [encI j]) rfl rfl rfl (by decide) (h.pick (.there (.there .here))) (ownS_rd h .here) (by intro u hu; rw [List.mem_singleton.1 hu]; rfl) (by rw [List.length_singleton]; omega) (by rw [List.length_singleton]; omega)) ?_
  intro v3 w h
  obtain ⟨a, len, cap, rfl, _⟩ := ownS_slice h .here
  refine y_do rfl (d_stwL rfl rfl rfl rfl rfl (h.pick (.there (.there .here))) rfl) ?_
  rintro _ w ⟨rfl, h⟩
  exact y_nil ⟨_, h.sub (.cons .here (.cons .here (.skip (.skip (.refl _)))))⟩
theorem ints_seq {g : FuncId} {lb : Array Value} {Nm : Nat} {Hs : List HProp} {R : List Value → Prop} (hNm : Nm ≤ 1000000) (hg : bodyOk Tryz.prog g = true) (hit : Iter Tryz.prog g lb okInt Nm Hs R) (h : Sat S w (Hs ++ G)) :
    Ret Tryz.prog F.slices_AppendSeq_int_int #[.slice none 0 0, .func (.func g) #[] lb] w (fun v w' => ∃ xs, R xs ∧ Sat S w' (ownS T.int 1 v (xs.flatMap (fun x => x.cells.toList)) :: (Hs ++ G))) :=
  append_ret Tryz.func131 rfl rfl rfl (by kernel_rfl) (by kernel_rfl) (by kernel_rfl) (by kernel_rfl) (by kernel_rfl) hg (by decide) (int_round hNm) (fun x ⟨j, hj⟩ => by rw [hj]; rfl) hit h
theorem flat_one : ∀ us : List Int, us.flatMap (fun n => [encI n]) = us.map encI
  | [] => rfl
  | x :: us => by rw [List.flatMap_cons, List.map_cons, flat_one us]; rfl
theorem nums_values {b bm : Nat} (l : NL) : Iter Tryz.prog F.maps_Values_map_int_int_int_int_1 #[.pointer (some ⟨bm, 0, none⟩)] okInt l.length [isMap encI b (nkv l), pt bm (.cells #[.map (some b)] T.map_int_int (0, 0))] (fun xs => xs.Perm (l.map (fun p => encI p.2))) := by
  intro S G w l1 J hy h
  have h : Sat S w (isMap encI b (nkv l) :: pt bm (.cells #[.map (some b)] T.map_int_int (0, 0)) :: J [] :: G) := h.sub (.cons (.there .here) (.cons (.there .here) (.refl _)))
  have kl : (nkv l).map (·.2) = l.map (fun p => encI p.2) := by unfold nkv mapF; rw [List.map_map]; rfl
  rw [← kl]
  have kn := nkv_len l
  refine ret_of is_maps_Values_map_int_int_int_int_1 rfl ?_
  repeat' (first | (refine p_do rfl (d_rng (enc := encI) (kv := nkv l) rfl h) ?_; rintro _ w ⟨rb, rfl, h⟩) | refine stP ?_ | fail)
  have k1 : ∀ p ∈ nkv l, ∃ j, p.2 = encI j := fun p hp => by
    obtain ⟨x, hx, rfl⟩ := List.mem_map.1 hp
    exact ⟨x.2, rfl⟩
  have k2 : ([] : VL).length + (nkv l).length = l.length := by rw [kn]; simp
  refine x_keep [0, 6] rfl ?_
  refine x_loop_inv (fun lm le w => ∃ (lf : IV), ∃ (cur : IP), ∃ (past : VL), lm = 1 + lf.length ∧ (past ++ lf.map (·.2)).Perm ((nkv l).map (·.2)) ∧ (∀ p ∈ lf, ∃ j, p.2 = encI j) ∧ past.length + lf.length = l.length ∧ le = [(0, .func (.yield l1) #[] #[]), (6, .pointer (some ⟨rb, 0, none⟩))] ∧ Sat S w (isRng encI b rb (nkv l) lf cur :: pt bm (.cells #[.map (some b)] T.map_int_int (0, 0)) :: J past :: G)) (1 + (nkv l).length) ⟨nkv l, none, [], rfl, (List.Perm.refl _), k1, k2, rfl, h⟩ ?_
  clear h
  rintro lm le w ⟨lf, cur, past, rfl, hi0, hi1, hi2, rfl, h⟩ ih
  repeat' (first | (refine p_do rfl (d_nxt rfl h) ?_; rintro _ w (⟨rfl, rfl, h⟩ | ⟨p, lf', hpm, rfl, h⟩)) | refine stP ?_ | fail)
  · exact x_end' is_maps_Values_map_int_int_int_int_1 rfl ⟨past, by simpa using hi0, (isRng_map h).sub (.cons (.there (.there .here)) (.refl _))⟩
  obtain ⟨j, hj⟩ := hi1 p (hpm.mem_iff.2 (List.mem_cons_self ..))
  obtain ⟨pn, pv⟩ := p
  have hpv : pv = encI j := hj
  subst hpv
  have hll := hpm.length_eq
  rw [List.length_cons] at hll
  repeat' (first | (refine x_opsY (xs := ⟨some 11, none, .mv (.tmp 0)⟩ :: _) ?_) | (refine p_val rfl (g_ent rfl h) ?_) | refine stP ?_ | fail)
  refine y_val rfl (gives_pure rfl) (y_val rfl (gives_pure rfl) (y_yield rfl rfl rfl (hy past _ w _ ⟨j, rfl⟩ (by omega) (h.pick (.there (.there .here)))) ?_))
  rintro _ w ⟨rfl, h⟩
  refine y_val rfl (gives_pure rfl) (y_nil ?_)
  repeat' (first | refine stPs ?_ | fail)
  exact x_keep [0, 6] rfl (ih _ _ _ (by omega) ⟨lf', some (pn, encI j), past ++ [encI j], rfl, perm_came (fun p => p.2) hi0 hpm, fun p hp => hi1 p (hpm.mem_iff.2 (List.mem_cons_of_mem _ hp)), by rw [List.length_append, List.length_singleton]; omega, rfl, h.sub (.cons (.there .here) (.cons (.there .here) (.cons .here (.refl _))))⟩)
theorem maps_Values_map_int_int_int_int_spec {b : Nat} (l : NL) (h : Sat S w (isMap encI b (nkv l) :: G)) :
    Ret Tryz.prog F.maps_Values_map_int_int_int_int #[.map (some b)] w (fun v w' => ∃ bm, v = .func (.func F.maps_Values_map_int_int_int_int_1) #[] #[.pointer (some ⟨bm, 0, none⟩)] ∧ Sat S w' (isMap encI b (nkv l) :: pt bm (.cells #[.map (some b)] T.map_int_int (0, 0)) :: G)) := by
  refine ret_of is_maps_Values_map_int_int_int_int rfl ?_
  repeat' (first | refine stPs ?_ | (refine stC1_P15k ?_; rintro _ w ⟨bx, rfl, h⟩) | fail)
  exact x_ret' is_maps_Values_map_int_int_int_int rfl ⟨_, rfl, h.sub (.cons (.there .here) (.cons .here (.refl _)))⟩
/-- Of a map's values. -/
theorem collect_values {b bm : Nat} (l : NL) (hl : l.length ≤ 1000) (h : Sat S w (isMap encI b (nkv l) :: pt bm (.cells #[.map (some b)] T.map_int_int (0, 0)) :: G)) :
    Ret Tryz.prog F.slices_Collect_int #[.func (.func F.maps_Values_map_int_int_int_int_1) #[] #[.pointer (some ⟨bm, 0, none⟩)]] w (fun v w' => ∃ xs : List Int, xs.Perm (l.map (·.2)) ∧ Sat S w' (ownS T.int 1 v (ints .i64 xs) :: isMap encI b (nkv l) :: pt bm (.cells #[.map (some b)] T.map_int_int (0, 0)) :: G)) := by
  refine ret_of is_slices_Collect_int rfl ?_
  repeat' (first | (refine gC F.slices_AppendSeq_int_int ?_; refine p_call rfl rfl (ints_seq (G := G) (by omega) bd_maps_Values_map_int_int_int_int_1 (nums_values l) h) ?_; rintro v w ⟨xs, hxs, h⟩) | refine stP ?_ | fail)
  obtain ⟨us, rfl, hp⟩ := perm_map_inv encI hxs.symm (l.map (·.2)) (by rw [List.map_map]; rfl)
  have hfl : (us.map encI).flatMap (fun x => x.cells.toList) = ints .i64 us := by
    rw [List.flatMap_map]
    exact flat_one us
  rw [hfl] at h
  exact x_ret' is_slices_Collect_int rfl ⟨us, hp, h⟩
theorem nums_keys {b bm : Nat} (kv : IV) : Iter Tryz.prog F.maps_Keys_map_int_int_int_int_1 #[.pointer (some ⟨bm, 0, none⟩)] okInt kv.length [isMap encI b kv, pt bm (.cells #[.map (some b)] T.map_int_int (0, 0))] (fun xs => xs.Perm (kv.map (fun p => encI p.1))) := by
  intro S G w l1 J hy h
  have h : Sat S w (isMap encI b kv :: pt bm (.cells #[.map (some b)] T.map_int_int (0, 0)) :: J [] :: G) := h.sub (.cons (.there .here) (.cons (.there .here) (.refl _)))
  refine ret_of is_maps_Keys_map_int_int_int_int_1 rfl ?_
  repeat' (first | (refine p_do rfl (d_rng (enc := encI) (kv := kv) rfl h) ?_; rintro _ w ⟨rb, rfl, h⟩) | refine stP ?_ | fail)
  have k2 : ([] : VL).length + kv.length = kv.length := by simp
  refine x_keep [0, 5] rfl ?_
  refine x_loop_inv (fun lm le w => ∃ (lf : IV), ∃ (cur : IP), ∃ (past : VL), lm = 1 + lf.length ∧ (past ++ lf.map (fun p => encI p.1)).Perm (kv.map (fun p => encI p.1)) ∧ past.length + lf.length = kv.length ∧ le = [(0, .func (.yield l1) #[] #[]), (5, .pointer (some ⟨rb, 0, none⟩))] ∧ Sat S w (isRng encI b rb kv lf cur :: pt bm (.cells #[.map (some b)] T.map_int_int (0, 0)) :: J past :: G)) (1 + kv.length) ⟨kv, none, [], rfl, (List.Perm.refl _), k2, rfl, h⟩ ?_
  clear h
  rintro lm le w ⟨lf, cur, past, rfl, hi0, hi1, rfl, h⟩ ih
  repeat' (first | (refine p_do rfl (d_nxt rfl h) ?_; rintro _ w (⟨rfl, rfl, h⟩ | ⟨p, lf', hpm, rfl, h⟩)) | refine stP ?_ | fail)
  · exact x_end' is_maps_Keys_map_int_int_int_int_1 rfl ⟨past, by simpa using hi0, (isRng_map h).sub (.cons (.there (.there .here)) (.refl _))⟩
  have hll := hpm.length_eq
  rw [List.length_cons] at hll
  repeat' (first | (refine x_opsY (xs := ⟨some 10, none, .mv (.tmp 0)⟩ :: _) ?_) | (refine p_val rfl (g_ent rfl h) ?_) | refine stP ?_ | fail)
  refine y_val rfl (gives_pure rfl) (y_val rfl (gives_pure rfl) (y_yield rfl rfl rfl (hy past _ w _ ⟨p.1, rfl⟩ (by omega) (h.pick (.there (.there .here)))) ?_))
  rintro _ w ⟨rfl, h⟩
  refine y_val rfl (gives_pure rfl) (y_nil ?_)
  repeat' (first | refine stPs ?_ | fail)
  exact x_keep [0, 5] rfl (ih _ _ _ (by omega) ⟨lf', some p, past ++ [encI p.1], rfl, perm_came (fun p => encI p.1) hi0 hpm, by rw [List.length_append, List.length_singleton]; omega, rfl, h.sub (.cons (.there .here) (.cons (.there .here) (.cons .here (.refl _))))⟩)
theorem maps_Keys_map_int_int_int_int_spec {b : Nat} (kv : IV) (h : Sat S w (isMap encI b kv :: G)) :
    Ret Tryz.prog F.maps_Keys_map_int_int_int_int #[.map (some b)] w (fun v w' => ∃ bm, v = .func (.func F.maps_Keys_map_int_int_int_int_1) #[] #[.pointer (some ⟨bm, 0, none⟩)] ∧ Sat S w' (isMap encI b kv :: pt bm (.cells #[.map (some b)] T.map_int_int (0, 0)) :: G)) := by
  refine ret_of is_maps_Keys_map_int_int_int_int rfl ?_
  repeat' (first | refine stPs ?_ | (refine stC1_P15k ?_; rintro _ w ⟨bx, rfl, h⟩) | fail)
  exact x_ret' is_maps_Keys_map_int_int_int_int rfl ⟨_, rfl, h.sub (.cons (.there .here) (.cons .here (.refl _)))⟩
/-- Of a map's keys. -/
theorem collect_keys {b bm : Nat} (kv : IV) (hl : kv.length ≤ 1000) (h : Sat S w (isMap encI b kv :: pt bm (.cells #[.map (some b)] T.map_int_int (0, 0)) :: G)) :
    Ret Tryz.prog F.slices_Collect_int #[.func (.func F.maps_Keys_map_int_int_int_int_1) #[] #[.pointer (some ⟨bm, 0, none⟩)]] w (fun v w' => ∃ xs : List Int, xs.Perm (kv.map (·.1)) ∧ Sat S w' (ownS T.int 1 v (ints .i64 xs) :: isMap encI b kv :: pt bm (.cells #[.map (some b)] T.map_int_int (0, 0)) :: G)) := by
  refine ret_of is_slices_Collect_int rfl ?_
  repeat' (first | (refine gC F.slices_AppendSeq_int_int ?_; refine p_call rfl rfl (ints_seq (G := G) (by omega) bd_maps_Keys_map_int_int_int_int_1 (nums_keys kv) h) ?_; rintro v w ⟨xs, hxs, h⟩) | refine stP ?_ | fail)
  obtain ⟨us, rfl, hp⟩ := perm_map_inv encI hxs.symm (kv.map (·.1)) (by rw [List.map_map]; rfl)
  have hfl : (us.map encI).flatMap (fun x => x.cells.toList) = ints .i64 us := by
    rw [List.flatMap_map]
    exact flat_one us
  rw [hfl] at h
  exact x_ret' is_slices_Collect_int rfl ⟨us, hp, h⟩
end
end Go.Proofs.YtflbfdmmfoigaaaGreat
