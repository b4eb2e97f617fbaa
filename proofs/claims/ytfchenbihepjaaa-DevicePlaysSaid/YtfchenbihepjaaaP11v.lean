/- Layer 11 (device): the blocks that are there, in their order. -/
import Derived.Test.YtfchenbihepjaaaHxS
import Derived.Test.YtfchenbihepjaaaP11k
import Derived.Test.YtfchenbihepjaaaP11u
namespace Go.Proofs.Ytfchenbihepjaaa
open Go Go.HX
attribute [local irreducible] Ret XRun XOps XDr XOne Does Gives
set_option maxRecDepth 4000
set_option maxHeartbeats 1000000
abbrev BV := List ((Int × Int) × Value)
abbrev BP := Option ((Int × Int) × Value)
theorem stC0_P11v {goal next : Prop} (k : next) (hs : Hid next → goal := by (intro k; (first | (refine gN ?_; refine p_do rfl (d_newL h (by first | (dsimp only [Value.cells]; done) | exact rfl)) ?_) | (refine gBx ?_; refine p_do rfl (d_boxL rfl h (by first | (dsimp only [Value.cells]; done) | exact rfl)) ?_) | fail); exact k.out)) : goal := hs ⟨k⟩
theorem stC1_P11v {goal next : Prop} (k : next) (hs : Hid next → goal := by (intro k; (first | (refine gS ?_; (first | refine p_do rfl (d_stwL rfl rfl rfl rfl rfl (h.pick (by repeat first | exact .here | apply Has.there)) (by first | (dsimp only [Value.cells]; done) | exact rfl)) ?_ | refine p_do rfl (d_stL rfl rfl rfl (h.pick (by repeat first | exact .here | apply Has.there)) (by first | exact of_decide_eq_true rfl | simp) (by first | (dsimp only [List.set]; done) | exact rfl)) ?_)) | fail); exact k.out)) : goal := hs ⟨k⟩
theorem stC2_P11v {goal next : Prop} (k : next) (hs : Hid next → goal := by (intro k; (first | (refine gC F.slices_Collect_api_Block ?_; refine p_call rfl rfl (slices_Collect_api_Block_spec _ ?_ (h.rf2)) ?_; iterate 1 (first | assumption | omega | (simp only []; omega) | decide)) | fail); exact k.out)) : goal := hs ⟨k⟩
theorem stC3_P11v {goal next : Prop} (k : next) (hs : Hid next → goal := by (intro k; (first | (refine gC F.maps_Keys_map_api_Block_string_api_Block_string ?_; refine p_call rfl rfl (maps_Keys_map_api_Block_string_api_Block_string_spec _ (h.rf1)) ?_) | fail); exact k.out)) : goal := hs ⟨k⟩
theorem stC4_P11v {goal next : Prop} (k : next) (hs : Hid next → goal := by (intro k; (first | (refine gC F.slices_SortedFunc_api_Block ?_; refine p_call rfl rfl (slices_SortedFunc_api_Block_spec _ ?_ (h.rf2)) ?_; iterate 1 (first | assumption | omega | (simp only []; omega) | decide)) | fail); exact k.out)) : goal := hs ⟨k⟩
section
variable {S : SP} {w : World} {G : List HProp}
theorem blks_keys {b bm : Nat} (kv : BV) : Iter Try.prog F.maps_Keys_map_api_Block_string_api_Block_string_1 #[.pointer (some ⟨bm, 0, none⟩)] okBlk kv.length [isMap encB b kv, pt bm (.cells #[.map (some b)] T.map_api_Block_string (0, 0))] (fun xs => xs.Perm (kv.map (fun p => encB p.1))) := by
  intro S G w l1 J hy h
  have h : Sat S w (isMap encB b kv :: pt bm (.cells #[.map (some b)] T.map_api_Block_string (0, 0)) :: J [] :: G) := h.sub (.cons (.there .here) (.cons (.there .here) (.refl _)))
  refine ret_of is_maps_Keys_map_api_Block_string_api_Block_string_1 rfl ?_
  repeat' (first | (refine p_do rfl (d_rng (enc := encB) (kv := kv) rfl h) ?_; rintro _ w ⟨rb, rfl, h⟩) | refine stP ?_ | (refine stC0_P11v ?_; rintro _ w ⟨bx, rfl, h⟩) | (refine stC1_P11v ?_; rintro _ w ⟨rfl, h⟩) | fail)
  have k2 : ([] : VL).length + kv.length = kv.length := by simp
  refine x_keep [0, 5] rfl ?_
  refine x_loop_inv (fun lm le w => ∃ (lf : BV), ∃ (cur : BP), ∃ (past : VL), lm = 1 + lf.length ∧ (past ++ lf.map (fun p => encB p.1)).Perm (kv.map (fun p => encB p.1)) ∧ past.length + lf.length = kv.length ∧ le = [(0, .func (.yield l1) #[] #[]), (5, .pointer (some ⟨rb, 0, none⟩))] ∧ Sat S w (isRng encB b rb kv lf cur :: pt bm (.cells #[.map (some b)] T.map_api_Block_string (0, 0)) :: J past :: G)) (1 + kv.length) ⟨kv, none, [], rfl, (List.Perm.refl _), k2, rfl, h⟩ ?_
  clear h
  rintro lm le w ⟨lf, cur, past, rfl, hi0, hi1, rfl, h⟩ ih
  repeat' (first | (refine p_do rfl (d_nxt rfl h) ?_; rintro _ w (⟨rfl, rfl, h⟩ | ⟨p, lf', hpm, rfl, h⟩)) | refine stP ?_ | (refine stC0_P11v ?_; rintro _ w ⟨bx, rfl, h⟩) | (refine stC1_P11v ?_; rintro _ w ⟨rfl, h⟩) | fail)
  · exact x_end' is_maps_Keys_map_api_Block_string_api_Block_string_1 rfl ⟨past, by simpa using hi0, (isRng_map h).sub (.cons (.there (.there .here)) (.refl _))⟩
  have hll := hpm.length_eq
  rw [List.length_cons] at hll
  obtain ⟨⟨pa, pn⟩, pv⟩ := p
  repeat' (first | (refine x_opsY (xs := ⟨some 10, none, .mv (.tmp 0)⟩ :: _) ?_) | (refine p_val rfl (v := .tuple #[.agg #[.int .i64 pa, .int .i64 pn], pv]) (g_ent rfl h) ?_) | refine stP ?_ | (refine stC0_P11v ?_; rintro _ w ⟨bx, rfl, h⟩) | (refine stC1_P11v ?_; rintro _ w ⟨rfl, h⟩) | fail)
  refine y_val rfl (gives_pure rfl) (y_val rfl (g_lda rfl rfl h.block) (y_yield rfl rfl rfl (hy past _ w _ ⟨(pa, pn), rfl⟩ (by omega) (h.pick (.there (.there (.there .here))))) ?_))
  rintro _ w ⟨rfl, h⟩
  refine y_val rfl (gives_pure rfl) (y_nil ?_)
  repeat' (first | refine stPs ?_ | (refine stC0_P11v ?_; rintro _ w ⟨bx, rfl, h⟩) | (refine stC1_P11v ?_; rintro _ w ⟨rfl, h⟩) | fail)
  exact x_keep [0, 5] rfl (ih _ _ _ (by omega) ⟨lf', some ((pa, pn), pv), past ++ [encB (pa, pn)], rfl, perm_came (fun p => encB p.1) hi0 hpm, by rw [List.length_append, List.length_singleton]; omega, rfl, h.sub (.cons (.there (.there .here)) (.cons (.there (.there .here)) (.cons .here (.skip (.refl _)))))⟩)
def blkZ : List Value := [.int .i64 0, .int .i64 0]
theorem blk_round {Nm : Nat} (hNm : Nm ≤ 1000000) : ApRound Try.prog [⟨some 5, none, .new 24 (.agg #[.int .i64 0, .int .i64 0])⟩, ⟨none, none, .st (.tmp 5) (.tmp 7) 2⟩]
    [⟨some 8, none, .ld (.tmp 2) none⟩, ⟨some 9, none, .ld (.tmp 5) (some 2)⟩, ⟨some 10, none, .bsl 24 2 1 blkZ [(0, .tmp 9)]⟩, ⟨some 11, none, .app 24 2 16 blkZ (.tmp 8) (.tmp 10)⟩, ⟨none, none, .st (.tmp 2) (.tmp 11) 1⟩] 54 24 2 okBlk Nm := by
  rintro l Bs S G w x v cs ⟨j, rfl⟩ hlen h
  refine y_do rfl (d_newL h rfl) ?_
  rintro _ w ⟨c, rfl, h⟩
  refine y_do rfl (d_stwL rfl rfl rfl rfl rfl h rfl) ?_
  rintro _ w ⟨rfl, h⟩
  refine y_nil ⟨_, h.sub (.cons (.there .here) (.cons (.there .here) (.refl _))), fun w G2 h => ?_⟩
  refine y_val rfl (g_ld rfl (h.cell .here rfl)) (y_val rfl (g_lda rfl rfl (h.pick (.there (.there .here))).block) ?_)
  refine y_do rfl (d_lit (blkC j) rfl rfl rfl rfl rfl h) ?_
  intro v2 w h
  refine y_do rfl (d_appR (cs := cs) (news := blkC j) rfl rfl rfl (by decide) (h.pick (.there (.there .here))) (ownS_rd h .here) (blkC_one j) (by rw [blkC_len]; omega) (by rw [blkC_len]; omega)) ?_
  intro v3 w h
  obtain ⟨a, len, cap, rfl, _⟩ := ownS_slice h .here
  refine y_do rfl (d_stwL rfl rfl rfl rfl rfl (h.pick (.there (.there .here))) rfl) ?_
  rintro _ w ⟨rfl, h⟩
  exact y_nil ⟨_, h.sub (.cons .here (.cons .here (.skip (.skip (.refl _)))))⟩
theorem blks_append {g : FuncId} {lb : Array Value} {Nm : Nat} {Hs : List HProp} {R : List Value → Prop} (hNm : Nm ≤ 1000000) (hg : bodyOk Try.prog g = true) (hit : Iter Try.prog g lb okBlk Nm Hs R) (h : Sat S w (Hs ++ G)) :
    Ret Try.prog F.slices_AppendSeq_api_Block_api_Block #[.slice none 0 0, .func (.func g) #[] lb] w (fun v w' => ∃ xs, R xs ∧ Sat S w' (ownS 24 2 v (xs.flatMap (fun x => x.cells.toList)) :: (Hs ++ G))) :=
  append_ret Try.func111 rfl rfl rfl (by kernel_rfl) (by kernel_rfl) (by kernel_rfl) (by kernel_rfl) (by kernel_rfl) hg (by decide) (blk_round hNm) (fun x ⟨j, hj⟩ => by rw [hj]; rfl) hit h
theorem maps_Keys_map_api_Block_string_api_Block_string_spec {b : Nat} (kv : BV) (h : Sat S w (isMap encB b kv :: G)) :
    Ret Try.prog F.maps_Keys_map_api_Block_string_api_Block_string #[.map (some b)] w (fun v w' => ∃ bm, v = .func (.func F.maps_Keys_map_api_Block_string_api_Block_string_1) #[] #[.pointer (some ⟨bm, 0, none⟩)] ∧ Sat S w' (isMap encB b kv :: pt bm (.cells #[.map (some b)] T.map_api_Block_string (0, 0)) :: G)) := by
  refine ret_of is_maps_Keys_map_api_Block_string_api_Block_string rfl ?_
  repeat' (first | refine stPs ?_ | (refine stC0_P11v ?_; rintro _ w ⟨bx, rfl, h⟩) | fail)
  exact x_ret' is_maps_Keys_map_api_Block_string_api_Block_string rfl ⟨_, rfl, h.sub (.cons (.there .here) (.cons .here (.refl _)))⟩
theorem slices_Collect_api_Block_spec {b bm : Nat} (kv : BV) (hl : kv.length ≤ 1000) (h : Sat S w (isMap encB b kv :: pt bm (.cells #[.map (some b)] T.map_api_Block_string (0, 0)) :: G)) :
    Ret Try.prog F.slices_Collect_api_Block #[.func (.func F.maps_Keys_map_api_Block_string_api_Block_string_1) #[] #[.pointer (some ⟨bm, 0, none⟩)]] w (fun v w' => ∃ xs : List (Int × Int), xs.Perm (kv.map (·.1)) ∧ Sat S w' (ownS T.api_Block 2 v (rows blkC xs) :: isMap encB b kv :: pt bm (.cells #[.map (some b)] T.map_api_Block_string (0, 0)) :: G)) := by
  refine ret_of is_slices_Collect_api_Block rfl ?_
  repeat' (first | (refine gC F.slices_AppendSeq_api_Block_api_Block ?_; refine p_call rfl rfl (blks_append (G := G) (by omega) bd_maps_Keys_map_api_Block_string_api_Block_string_1 (blks_keys kv) h) ?_; rintro v w ⟨xs, hxs, h⟩) | refine stP ?_ | fail)
  obtain ⟨us, rfl, hp⟩ := perm_map_inv encB hxs.symm (kv.map (·.1)) (by rw [List.map_map]; rfl)
  have hfl : (us.map encB).flatMap (fun x => x.cells.toList) = rows blkC us := by
    rw [List.flatMap_map]; rfl
  rw [hfl] at h
  exact x_ret' is_slices_Collect_api_Block rfl ⟨us, hp, h⟩
theorem slices_SortedFunc_api_Block_spec {b bm : Nat} (kv : BV) (hl : kv.length ≤ 1000) (h : Sat S w (isMap encB b kv :: pt bm (.cells #[.map (some b)] T.map_api_Block_string (0, 0)) :: G)) :
    Ret Try.prog F.slices_SortedFunc_api_Block #[.func (.func F.maps_Keys_map_api_Block_string_api_Block_string_1) #[] #[.pointer (some ⟨bm, 0, none⟩)], .func (.func F.device_Device_Blocks_1) #[] #[]] w (fun v w' => ∃ m : List (Int × Int), m.Perm (kv.map (·.1)) ∧ Rising m ∧ Sat S w' (ownS T.api_Block 2 v (rows blkC m) :: isMap encB b kv :: pt bm (.cells #[.map (some b)] T.map_api_Block_string (0, 0)) :: G)) := by
  refine ret_of is_slices_SortedFunc_api_Block rfl ?_
  repeat' (first | (refine gC F.slices_Collect_api_Block ?_; refine p_call rfl rfl (slices_Collect_api_Block_spec kv hl h) ?_; rintro v w ⟨xs, hxs, h⟩) | (refine gC F.slices_SortFunc_api_Block_api_Block ?_; refine p_call rfl rfl (sortBlocks xs (by have := hxs.length_eq; rw [List.length_map] at this; omega) h) ?_; rintro _ w ⟨rfl, m, hm, hrs, h⟩) | refine stP ?_ | (refine stC2_P11v ?_; rintro v w ⟨xs, hq1, h⟩) | fail)
  exact x_ret' is_slices_SortedFunc_api_Block rfl ⟨m, hm.trans hxs, hrs, h⟩
theorem bkv_len (l : BL) : (bkv l).length = l.length := by unfold bkv mapF; rw [List.length_map]
theorem bkv_keys (l : BL) : (bkv l).map (·.1) = l.map (·.1) := by unfold bkv mapF; rw [List.map_map]; rfl
theorem device_Device_Blocks_spec {d bb jb ab : Nat} (x : DevM) (hl : x.blks.length ≤ 1000) (h : Sat S w (pt d (.cells #[.bool (x).off, .map (some bb), .map (some jb), .map (some ab), .int .i64 (x).last] T.device_Device (0, 0)) :: isMap encB bb (bkv (x).blks) :: isMap encI jb (jkv (x).jobs) :: isMap encI ab (akv (x).anss) :: G)) : Ret Try.prog F.device_Device_Blocks #[.pointer (some ⟨d, 0, none⟩)] w (fun v w' => ∃ m : List (Int × Int), m.Perm (x.blks.map (·.1)) ∧ Rising m ∧ Sat S w' (ownS T.api_Block 2 v (rows blkC m) :: pt d (.cells #[.bool (x).off, .map (some bb), .map (some jb), .map (some ab), .int .i64 (x).last] T.device_Device (0, 0)) :: isMap encB bb (bkv (x).blks) :: isMap encI jb (jkv (x).jobs) :: isMap encI ab (akv (x).anss) :: G)) := by
  refine ret_of is_device_Device_Blocks rfl ?_
  have ek := bkv_keys x.blks
  repeat' (first | (refine gC F.maps_Keys_map_api_Block_string_api_Block_string ?_; refine p_call rfl rfl (maps_Keys_map_api_Block_string_api_Block_string_spec (bkv x.blks) (h.rf1)) ?_; rintro _ w ⟨bm, rfl, h⟩) | (refine gC F.slices_SortedFunc_api_Block ?_; refine p_call rfl rfl (slices_SortedFunc_api_Block_spec (bkv x.blks) (by rw [bkv_len]; exact hl) (h.rf2)) ?_; rw [ek]; rintro v w ⟨m, hm, hs, h⟩) | refine stP ?_ | (refine stC3_P11v ?_; rintro _ w ⟨bm, rfl, h⟩) | (refine stC4_P11v ?_; rintro v w ⟨m, hq1, hq2, h⟩) | fail)
  exact x_ret' is_device_Device_Blocks rfl ⟨m, hm, hs, h.pm5⟩
end
end Go.Proofs.Ytfchenbihepjaaa
