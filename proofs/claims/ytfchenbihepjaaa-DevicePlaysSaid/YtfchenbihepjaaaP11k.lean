/- Layer 11 (device): the keys of a map, sorted. -/
import Derived.Test.YtfchenbihepjaaaHxS
import Derived.Test.YtfchenbihepjaaaP11i
import Derived.Test.YtfchenbihepjaaaLS
import Derived.Test.YtfchenbihepjaaaLay11
import Derived.Shelf.Sort.Plain
import Derived.Shelf.Slices.In.SortNone
namespace Go.Proofs.Ytfchenbihepjaaa
open Go Go.HX
attribute [local irreducible] Ret XRun XOps XDr XOne Does Gives
set_option maxRecDepth 4000
set_option maxHeartbeats 1000000
theorem stC0_P11k {goal next : Prop} (k : next) (hs : Hid next → goal := by (intro k; (first | (refine gBx ?_; refine p_do rfl (d_boxL rfl h (by first | (dsimp only [Value.cells]; done) | exact rfl)) ?_) | fail); exact k.out)) : goal := hs ⟨k⟩
theorem stC1_P11k {goal next : Prop} (k : next) (hs : Hid next → goal := by (intro k; (first | (refine gC F.slices_Collect_int ?_; refine p_call rfl rfl (slices_Collect_int_spec _ ?_ (h.rf2)) ?_; iterate 1 (first | assumption | omega | (simp only []; omega) | decide)) | fail); exact k.out)) : goal := hs ⟨k⟩
theorem stC2_P11k {goal next : Prop} (k : next) (hs : Hid next → goal := by (intro k; (first | (refine gC F.slices_Sort_int_int ?_; refine p_call rfl rfl (slices_Sort_int_int_spec _ ?_ (h.rf1)) ?_; iterate 1 (first | assumption | omega | (simp only []; omega) | decide)) | fail); exact k.out)) : goal := hs ⟨k⟩
section
variable {S : SP} {w : World} {G : List HProp}
theorem perm_came {K V : List Value} {α : Type} {lf lf' : List α} {p : α} (f : α → Value) (h : (K ++ lf.map f).Perm V) (hp : lf.Perm (p :: lf')) : ((K ++ [f p]) ++ lf'.map f).Perm V := by
  refine List.Perm.trans ?_ h
  have := (hp.map f).symm
  rw [List.map_cons] at this
  simp only [List.append_assoc, List.singleton_append]
  exact this.append_left K
theorem jobs_keys {b bm : Nat} (kv : IV) : Iter Try.prog F.maps_Keys_map_int_device_job_int_device_job_1 #[.pointer (some ⟨bm, 0, none⟩)] okInt kv.length [isMap encI b kv, pt bm (.cells #[.map (some b)] T.map_int_device_job (0, 0))] (fun xs => xs.Perm (kv.map (fun p => encI p.1))) := by
  intro S G w l1 J hy h
  have h : Sat S w (isMap encI b kv :: pt bm (.cells #[.map (some b)] T.map_int_device_job (0, 0)) :: J [] :: G) := h.sub (.cons (.there .here) (.cons (.there .here) (.refl _)))
  refine ret_of is_maps_Keys_map_int_device_job_int_device_job_1 rfl ?_
  repeat' (first | (refine p_do rfl (d_rng (enc := encI) (kv := kv) rfl h) ?_; rintro _ w ⟨rb, rfl, h⟩) | refine stP ?_ | fail)
  have k2 : ([] : VL).length + kv.length = kv.length := by simp
  refine x_keep [0, 5] rfl ?_
  refine x_loop_inv (fun lm le w => ∃ (lf : IV), ∃ (cur : IP), ∃ (past : VL), lm = 1 + lf.length ∧ (past ++ lf.map (fun p => encI p.1)).Perm (kv.map (fun p => encI p.1)) ∧ past.length + lf.length = kv.length ∧ le = [(0, .func (.yield l1) #[] #[]), (5, .pointer (some ⟨rb, 0, none⟩))] ∧ Sat S w (isRng encI b rb kv lf cur :: pt bm (.cells #[.map (some b)] T.map_int_device_job (0, 0)) :: J past :: G)) (1 + kv.length) ⟨kv, none, [], rfl, (List.Perm.refl _), k2, rfl, h⟩ ?_
  clear h
  rintro lm le w ⟨lf, cur, past, rfl, hi0, hi1, rfl, h⟩ ih
  repeat' (first | (refine p_do rfl (d_nxt rfl h) ?_; rintro _ w (⟨rfl, rfl, h⟩ | ⟨p, lf', hpm, rfl, h⟩)) | refine stP ?_ | fail)
  · exact x_end' is_maps_Keys_map_int_device_job_int_device_job_1 rfl ⟨past, by simpa using hi0, (isRng_map h).sub (.cons (.there (.there .here)) (.refl _))⟩
  have hll := hpm.length_eq
  rw [List.length_cons] at hll
  repeat' (first | (refine x_opsY (xs := ⟨some 10, none, .mv (.tmp 0)⟩ :: _) ?_) | (refine p_val rfl (g_ent rfl h) ?_) | refine stP ?_ | fail)
  refine y_val rfl (gives_pure rfl) (y_val rfl (gives_pure rfl) (y_yield rfl rfl rfl (hy past _ w _ ⟨p.1, rfl⟩ (by omega) (h.pick (.there (.there .here)))) ?_))
  rintro _ w ⟨rfl, h⟩
  refine y_val rfl (gives_pure rfl) (y_nil ?_)
  repeat' (first | refine stPs ?_ | fail)
  exact x_keep [0, 5] rfl (ih _ _ _ (by omega) ⟨lf', some p, past ++ [encI p.1], rfl, perm_came (fun p => encI p.1) hi0 hpm, by rw [List.length_append, List.length_singleton]; omega, rfl, h.sub (.cons (.there .here) (.cons (.there .here) (.cons .here (.refl _))))⟩)
theorem int_round {Nm : Nat} (hNm : Nm ≤ 1000000) : ApRound Try.prog [⟨some 5, none, .mv (.tmp 7)⟩]
    [⟨some 8, none, .ld (.tmp 2) none⟩, ⟨some 9, none, .mv (.tmp 5)⟩, ⟨some 10, none, .bsl 3 1 1 [.int .i64 0] [(0, .tmp 9)]⟩, ⟨some 11, none, .app 3 1 8 [.int .i64 0] (.tmp 8) (.tmp 10)⟩, ⟨none, none, .st (.tmp 2) (.tmp 11) 1⟩] 28 3 1 okInt Nm := by
  rintro l Bs S G w x v cs ⟨j, rfl⟩ hlen h
  refine y_val rfl (gives_pure rfl) (y_nil ⟨emp, (Sat_emp.2 h).sub (.cons (.there .here) (.cons (.there .here) (.refl _))), fun w G2 h => ?_⟩)
  refine y_val rfl (g_ld rfl (h.cell .here rfl)) (y_val rfl (gives_pure rfl) ?_)
  refine y_do rfl (d_lit [encI j] rfl rfl rfl rfl rfl h) ?_
  intro v2 w h
  refine y_do rfl (d_appR (cs := cs) (news := [encI j]) rfl rfl rfl (by decide) (h.pick (.there (.there .here))) (ownS_rd h .here) (by intro u hu; rw [List.mem_singleton.1 hu]; rfl) (by rw [List.length_singleton]; omega) (by rw [List.length_singleton]; omega)) ?_
  intro v3 w h
  obtain ⟨a, len, cap, rfl, _⟩ := ownS_slice h .here
  refine y_do rfl (d_stwL rfl rfl rfl rfl rfl (h.pick (.there (.there .here))) rfl) ?_
  rintro _ w ⟨rfl, h⟩
  exact y_nil ⟨_, h.sub (.cons .here (.cons .here (.skip (.skip (.refl _)))))⟩
theorem ints_append {g : FuncId} {lb : Array Value} {Nm : Nat} {Hs : List HProp} {R : List Value → Prop} (hNm : Nm ≤ 1000000) (hg : bodyOk Try.prog g = true) (hit : Iter Try.prog g lb okInt Nm Hs R) (h : Sat S w (Hs ++ G)) :
    Ret Try.prog F.slices_AppendSeq_int_int #[.slice none 0 0, .func (.func g) #[] lb] w (fun v w' => ∃ xs, R xs ∧ Sat S w' (ownS 3 1 v (xs.flatMap (fun x => x.cells.toList)) :: (Hs ++ G))) :=
  append_ret Try.func110 rfl rfl rfl (by kernel_rfl) (by kernel_rfl) (by kernel_rfl) (by kernel_rfl) (by kernel_rfl) hg (by decide) (int_round hNm) (fun x ⟨j, hj⟩ => by rw [hj]; rfl) hit h
theorem maps_Keys_map_int_device_job_int_device_job_spec {b : Nat} (kv : IV) (h : Sat S w (isMap encI b kv :: G)) :
    Ret Try.prog F.maps_Keys_map_int_device_job_int_device_job #[.map (some b)] w (fun v w' => ∃ bm, v = .func (.func F.maps_Keys_map_int_device_job_int_device_job_1) #[] #[.pointer (some ⟨bm, 0, none⟩)] ∧ Sat S w' (isMap encI b kv :: pt bm (.cells #[.map (some b)] T.map_int_device_job (0, 0)) :: G)) := by
  refine ret_of is_maps_Keys_map_int_device_job_int_device_job rfl ?_
  repeat' (first | refine stPs ?_ | (refine stC0_P11k ?_; rintro _ w ⟨bx, rfl, h⟩) | fail)
  exact x_ret' is_maps_Keys_map_int_device_job_int_device_job rfl ⟨_, rfl, h.sub (.cons (.there .here) (.cons .here (.refl _)))⟩
theorem flat_one : ∀ us : List Int, us.flatMap (fun n => [encI n]) = us.map encI
  | [] => rfl
  | x :: us => by rw [List.flatMap_cons, List.map_cons, flat_one us]; rfl
theorem ren_sort : lays189_ren.f 189 = F.slices_Sort_int_int := rfl
theorem slices_Collect_int_spec {b bm : Nat} (kv : IV) (hl : kv.length ≤ 1000) (h : Sat S w (isMap encI b kv :: pt bm (.cells #[.map (some b)] T.map_int_device_job (0, 0)) :: G)) :
    Ret Try.prog F.slices_Collect_int #[.func (.func F.maps_Keys_map_int_device_job_int_device_job_1) #[] #[.pointer (some ⟨bm, 0, none⟩)]] w (fun v w' => ∃ xs : List Int, xs.Perm (kv.map (·.1)) ∧ Sat S w' (ownS T.int 1 v (ints .i64 xs) :: isMap encI b kv :: pt bm (.cells #[.map (some b)] T.map_int_device_job (0, 0)) :: G)) := by
  refine ret_of is_slices_Collect_int rfl ?_
  repeat' (first | (refine gC F.slices_AppendSeq_int_int ?_; refine p_call rfl rfl (ints_append (G := G) (by omega) bd_maps_Keys_map_int_device_job_int_device_job_1 (jobs_keys kv) h) ?_; rintro v w ⟨xs, hxs, h⟩) | refine stP ?_ | fail)
  obtain ⟨us, rfl, hp⟩ := perm_map_inv encI hxs.symm (kv.map (·.1)) (by rw [List.map_map]; rfl)
  have hfl : (us.map encI).flatMap (fun x => x.cells.toList) = ints .i64 us := by
    rw [List.flatMap_map]
    exact flat_one us
  rw [hfl] at h
  exact x_ret' is_slices_Collect_int rfl ⟨us, hp, h⟩
/-- slices.Sort of whole numbers, however many. -/
theorem sortInts {v : Value} (zs : List Int) (hz : zs.length ≤ 1000000) (h : Sat S w (ownS T.int 1 v (ints .i64 zs) :: G)) :
    Ret Try.prog F.slices_Sort_int_int #[v] w (fun r w' => r = .tuple #[] ∧ ∃ m : List Int, m.Perm zs ∧ m.Pairwise (· ≤ ·) ∧ Sat S w' (ownS T.int 1 v (ints .i64 m) :: G)) := by
  obtain ⟨a, len, cap, rfl, hlen, _⟩ := ownS_slice h .here
  rw [ints_length, Nat.mul_one] at hlen
  rcases Nat.eq_zero_or_pos len with h0 | hp
  · subst h0
    obtain rfl : zs = [] := List.eq_nil_of_length_eq_zero hlen
    have hc := Any.slices_Sort_int_none lays189 a cap w
    rw [ren_sort] at hc
    unfold Ret
    refine Calls.mono hc ?_
    rintro _ w' ⟨rfl, rfl⟩
    exact ⟨_, rfl, rfl, [], List.Perm.refl _, List.Pairwise.nil, h⟩
  · obtain ⟨b, rfl⟩ := ownS_addr (E := T.int) h .here hp
    have h2 : Sat S w (ownS T.int 1 (.slice (some ⟨b, 0, none⟩) len cap) (zs.toArray.toList.map (Value.int .i64)) :: G) := h
    obtain ⟨hH, hb⟩ := sat_holds (Value.int .i64) zs.toArray hp h2
    have hc := Any.slices_Sort_int lays189 b 0 cap zs w hH hb (by omega)
    rw [hlen, ren_sort] at hc
    unfold Ret
    refine Calls.mono hc ?_
    rintro _ w' ⟨rfl, n, os, rfl⟩
    refine ⟨_, rfl, rfl, zs.mergeSort (fun x y => decide (x ≤ y)), List.mergeSort_perm _ _, ?_, ?_⟩
    · have := List.pairwise_mergeSort (le := fun x y : Int => decide (x ≤ y)) (fun a b c h1 h2 => by simp at *; omega) (fun a b => by simp; omega) zs
      exact this.imp (fun hab => by simpa using hab)
    · exact sat_row (Value.int .i64) (zs.mergeSort fun x y => decide (x ≤ y)).toArray (by rw [ints_length]; simp) n os hp h
theorem slices_Sorted_int_spec {b bm : Nat} (kv : IV) (hl : kv.length ≤ 1000) (h : Sat S w (isMap encI b kv :: pt bm (.cells #[.map (some b)] T.map_int_device_job (0, 0)) :: G)) :
    Ret Try.prog F.slices_Sorted_int #[.func (.func F.maps_Keys_map_int_device_job_int_device_job_1) #[] #[.pointer (some ⟨bm, 0, none⟩)]] w (fun v w' => ∃ m : List Int, m.Perm (kv.map (·.1)) ∧ m.Pairwise (· ≤ ·) ∧ Sat S w' (ownS T.int 1 v (ints .i64 m) :: isMap encI b kv :: pt bm (.cells #[.map (some b)] T.map_int_device_job (0, 0)) :: G)) := by
  refine ret_of is_slices_Sorted_int rfl ?_
  repeat' (first | (refine gC F.slices_Collect_int ?_; refine p_call rfl rfl (slices_Collect_int_spec kv hl h) ?_; rintro v w ⟨xs, hxs, h⟩) | (refine gC F.slices_Sort_int_int ?_; refine p_call rfl rfl (sortInts xs (by have := hxs.length_eq; rw [List.length_map] at this; omega) h) ?_; rintro _ w ⟨rfl, m, hm, hs, h⟩) | refine stP ?_ | (refine stC1_P11k ?_; rintro v w ⟨xs, hq1, h⟩) | (refine stC2_P11k ?_; rintro _ w ⟨rfl, ⟨m, hq1, hq2, h⟩⟩) | fail)
  exact x_ret' is_slices_Sorted_int rfl ⟨m, hm.trans hxs, hs, h⟩
end
end Go.Proofs.Ytfchenbihepjaaa
