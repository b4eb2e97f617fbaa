/- Layer 11 (device): the library's iterators over maps, and what is collected from them. -/
import Derived.Test.YtflbfdmmfoigaaaGreatHxS
import Derived.Test.YtflbfdmmfoigaaaGreatIr0
import Derived.Test.YtflbfdmmfoigaaaGreatIr1
namespace Go.Proofs.YtflbfdmmfoigaaaGreat
open Go Go.HX
attribute [local irreducible] Ret XRun XOps XDr XOne Does Gives
set_option maxRecDepth 4000
set_option maxHeartbeats 1000000
abbrev VL := List Value
theorem stC0_P11i {goal next : Prop} (k : next) (hs : Hid next → goal := by (intro k; (first | (refine gN ?_; refine p_do rfl (d_newL h (by first | (dsimp only [Value.cells]; done) | exact rfl)) ?_) | (refine gBx ?_; refine p_do rfl (d_boxL rfl h (by first | (dsimp only [Value.cells]; done) | exact rfl)) ?_) | fail); exact k.out)) : goal := hs ⟨k⟩
theorem stC1_P11i {goal next : Prop} (k : next) (hs : Hid next → goal := by (intro k; (first | (refine gS ?_; (first | refine p_do rfl (d_stwL rfl rfl rfl rfl rfl (h.pick (by repeat first | exact .here | apply Has.there)) (by first | (dsimp only [Value.cells]; done) | exact rfl)) ?_ | refine p_do rfl (d_stL rfl rfl rfl (h.pick (by repeat first | exact .here | apply Has.there)) (by first | exact of_decide_eq_true rfl | simp) (by first | (dsimp only [List.set]; done) | exact rfl)) ?_)) | fail); exact k.out)) : goal := hs ⟨k⟩
/-- A job: its block, whether it writes, its bytes. -/
structure JobM where
  area : Int
  no : Int
  wr : Bool
  data : ByteArray
deriving DecidableEq
def jobC (j : JobM) : List Value := [.int .i64 j.area, .int .i64 j.no, .bool j.wr, .string j.data]
def jobV (j : JobM) : Value := .agg #[.int .i64 j.area, .int .i64 j.no, .bool j.wr, .string j.data]
abbrev encI : Int → Value := fun n => .int .i64 n
abbrev encB : Int × Int → Value := enc2 .i64 .i64
theorem keyI : KeyOK Tryz.prog T.int encI := keyOK_int Tryz.underlying3
theorem keyB : KeyOK Tryz.prog T.api_Block encB := keyOK_two Tryz.underlying73 (by decide) (by decide) rfl rfl Tryz.underlying3 Tryz.underlying3 (by kernel_rfl) (by kernel_rfl)
abbrev JL := List (Int × JobM)
def jkv (l : JL) : List (Int × Value) := l.map (fun p => (p.1, jobV p.2))
abbrev IV := List (Int × Value)
abbrev IP := Option (Int × Value)
section
variable {S : SP} {w : World} {G : List HProp}
def okJob (x : Value) : Prop := ∃ j, x = jobV j
def okInt (x : Value) : Prop := ∃ n, x = encI n
def okBlk (x : Value) : Prop := ∃ n, x = encB n
theorem vals_round {K V : List Value} {lf lf' : IV} {p : Int × Value} (f : Int × Value → Value) (h : (K ++ lf.map f).Perm V) (hp : lf.Perm (p :: lf')) : ((K ++ [f p]) ++ lf'.map f).Perm V := by
  refine List.Perm.trans ?_ h
  have := (hp.map f).symm
  rw [List.map_cons] at this
  simp only [List.append_assoc, List.singleton_append]
  exact this.append_left K

theorem jobs_values {b bm : Nat} (l : JL) : Iter Tryz.prog F.maps_Values_map_int_device_job_int_device_job_1 #[.pointer (some ⟨bm, 0, none⟩)] okJob l.length [isMap encI b (jkv l), pt bm (.cells #[.map (some b)] T.map_int_device_job (0, 0))] (fun xs => xs.Perm (l.map (fun p => jobV p.2))) := by
  intro S G w l1 J hy h
  have h : Sat S w (isMap encI b (jkv l) :: pt bm (.cells #[.map (some b)] T.map_int_device_job (0, 0)) :: J [] :: G) := h.sub (.cons (.there .here) (.cons (.there .here) (.refl _)))
  have kl : (jkv l).map (·.2) = l.map (fun p => jobV p.2) := by unfold jkv; rw [List.map_map]; rfl
  rw [← kl]
  have kn : (jkv l).length = l.length := by unfold jkv; rw [List.length_map]
  refine ret_of is_maps_Values_map_int_device_job_int_device_job_1 rfl ?_
  repeat' (first | (refine p_do rfl (d_rng (enc := encI) (kv := jkv l) rfl h) ?_; rintro _ w ⟨rb, rfl, h⟩) | refine stP ?_ | (refine stC0_P11i ?_; rintro _ w ⟨bx, rfl, h⟩) | (refine stC1_P11i ?_; rintro _ w ⟨rfl, h⟩) | fail)
  have k1 : ∀ p ∈ jkv l, ∃ j, p.2 = jobV j := fun p hp => by
    obtain ⟨x, hx, rfl⟩ := List.mem_map.1 hp
    exact ⟨x.2, rfl⟩
  have k2 : ([] : VL).length + (jkv l).length = l.length := by rw [kn]; simp
  refine x_keep [0, 6] rfl ?_
  refine x_loop_inv (fun lm le w => ∃ (lf : IV), ∃ (cur : IP), ∃ (past : VL), lm = 1 + lf.length ∧ (past ++ lf.map (·.2)).Perm ((jkv l).map (·.2)) ∧ (∀ p ∈ lf, ∃ j, p.2 = jobV j) ∧ past.length + lf.length = l.length ∧ le = [(0, .func (.yield l1) #[] #[]), (6, .pointer (some ⟨rb, 0, none⟩))] ∧ Sat S w (isRng encI b rb (jkv l) lf cur :: pt bm (.cells #[.map (some b)] T.map_int_device_job (0, 0)) :: J past :: G)) (1 + (jkv l).length) ⟨jkv l, none, [], rfl, (List.Perm.refl _), k1, k2, rfl, h⟩ ?_
  clear h
  rintro lm le w ⟨lf, cur, past, rfl, hi0, hi1, hi2, rfl, h⟩ ih
  repeat' (first | (refine p_do rfl (d_nxt rfl h) ?_; rintro _ w (⟨rfl, rfl, h⟩ | ⟨p, lf', hpm, rfl, h⟩)) | refine stP ?_ | (refine stC0_P11i ?_; rintro _ w ⟨bx, rfl, h⟩) | (refine stC1_P11i ?_; rintro _ w ⟨rfl, h⟩) | fail)
  · exact x_end' is_maps_Values_map_int_device_job_int_device_job_1 rfl ⟨past, by simpa using hi0, (isRng_map h).sub (.cons (.there (.there .here)) (.refl _))⟩
  obtain ⟨j, hj⟩ := hi1 p (hpm.mem_iff.2 (List.mem_cons_self ..))
  obtain ⟨pn, pv⟩ := p
  have hpv : pv = .agg #[.int .i64 j.area, .int .i64 j.no, .bool j.wr, .string j.data] := hj
  subst hpv
  have hll := hpm.length_eq
  rw [List.length_cons] at hll
  repeat' (first | (refine x_opsY (xs := ⟨some 11, none, .mv (.tmp 0)⟩ :: _) ?_) | (refine p_val rfl (g_ent rfl h) ?_) | refine stP ?_ | (refine stC0_P11i ?_; rintro _ w ⟨bx, rfl, h⟩) | (refine stC1_P11i ?_; rintro _ w ⟨rfl, h⟩) | fail)
  refine y_val rfl (gives_pure rfl) (y_val rfl (g_lda rfl rfl h.block) (y_yield rfl rfl rfl (hy past _ w _ ⟨j, rfl⟩ (by omega) (h.pick (.there (.there (.there .here))))) ?_))
  rintro _ w ⟨rfl, h⟩
  refine y_val rfl (gives_pure rfl) (y_nil ?_)
  repeat' (first | refine stPs ?_ | (refine stC0_P11i ?_; rintro _ w ⟨bx, rfl, h⟩) | (refine stC1_P11i ?_; rintro _ w ⟨rfl, h⟩) | fail)
  exact x_keep [0, 6] rfl (ih _ _ _ (by omega) ⟨lf', some (pn, jobV j), past ++ [jobV j], rfl, vals_round (fun p => p.2) hi0 hpm, fun p hp => hi1 p (hpm.mem_iff.2 (List.mem_cons_of_mem _ hp)), by rw [List.length_append, List.length_singleton]; omega, rfl, h.sub (.cons (.there (.there .here)) (.cons (.there (.there .here)) (.cons .here (.skip (.refl _)))))⟩)

/-- What a list that is another one's, in another order, is made of. -/
theorem perm_map_inv {α β : Type} (f : α → β) {xs zs : List β} (h : zs.Perm xs) : ∀ ys : List α, zs = ys.map f → ∃ us : List α, xs = us.map f ∧ us.Perm ys := by
  induction h with
  | nil => exact fun ys h => ⟨[], rfl, by cases ys <;> simp_all⟩
  | cons x _ ih =>
    intro ys h
    cases ys with
    | nil => simp at h
    | cons y ys =>
      simp only [List.map_cons, List.cons.injEq] at h
      obtain ⟨us, rfl, hp⟩ := ih ys h.2
      exact ⟨y :: us, by rw [List.map_cons, h.1], hp.cons y⟩
  | swap x y l =>
    intro ys h
    cases ys with
    | nil => simp at h
    | cons a ys =>
      cases ys with
      | nil => simp at h
      | cons b ys =>
        simp only [List.map_cons, List.cons.injEq] at h
        exact ⟨b :: a :: ys, by rw [List.map_cons, List.map_cons, h.1, h.2.1, h.2.2], List.Perm.swap a b ys⟩
  | trans _ _ ih1 ih2 =>
    intro ys h
    obtain ⟨us, rfl, hp⟩ := ih1 ys h
    obtain ⟨vs, rfl, hq⟩ := ih2 us rfl
    exact ⟨vs, rfl, hq.trans hp⟩
def jobZ : List Value := [.int .i64 0, .int .i64 0, .bool false, .string ⟨#[]⟩]
theorem jobC_len (j : JobM) : (jobC j).length = 4 := rfl
theorem jobC_one (j : JobM) : ∀ u ∈ jobC j, u.oneCell' = true := by
  intro u hu
  simp only [jobC, List.mem_cons, List.not_mem_nil, or_false] at hu
  rcases hu with rfl | rfl | rfl | rfl <;> rfl
theorem job_round {Nm : Nat} (hNm : Nm ≤ 1000000) : ApRound Tryz.prog [⟨some 5, none, .new T.device_job (.agg #[.int .i64 0, .int .i64 0, .bool false, .string ⟨#[]⟩])⟩, ⟨none, none, .st (.tmp 5) (.tmp 7) 4⟩]
    [⟨some 8, none, .ld (.tmp 2) none⟩, ⟨some 9, none, .ld (.tmp 5) (some 4)⟩, ⟨some 10, none, .bsl T.device_job 4 1 jobZ [(0, .tmp 9)]⟩, ⟨some 11, none, .app T.device_job 4 40 jobZ (.tmp 8) (.tmp 10)⟩, ⟨none, none, .st (.tmp 2) (.tmp 11) 1⟩] T.slice_device_job T.device_job 4 okJob Nm := by
  rintro l Bs S G w x v cs ⟨j, rfl⟩ hlen h
  refine y_do rfl (d_newL h rfl) ?_
  rintro _ w ⟨c, rfl, h⟩
  refine y_do rfl (d_stwL rfl rfl rfl rfl rfl h rfl) ?_
  rintro _ w ⟨rfl, h⟩
  refine y_nil ⟨_, h.sub (.cons (.there .here) (.cons (.there .here) (.refl _))), fun w G2 h => ?_⟩
  refine y_val rfl (g_ld rfl (h.cell .here rfl)) (y_val rfl (g_lda rfl rfl (h.pick (.there (.there .here))).block) ?_)
  refine y_do rfl (d_lit (jobC j) rfl rfl rfl rfl rfl h) ?_
  intro v2 w h
  refine y_do rfl (d_appR (cs := cs) (news := jobC j) rfl rfl rfl (by decide) (h.pick (.there (.there .here))) (ownS_rd h .here) (jobC_one j) (by rw [jobC_len]; omega) (by rw [jobC_len]; omega)) ?_
  intro v3 w h
  obtain ⟨a, len, cap, rfl, _⟩ := ownS_slice h .here
  refine y_do rfl (d_stwL rfl rfl rfl rfl rfl (h.pick (.there (.there .here))) rfl) ?_
  rintro _ w ⟨rfl, h⟩
  exact y_nil ⟨_, h.sub (.cons .here (.cons .here (.skip (.skip (.refl _)))))⟩
theorem jobs_append {g : FuncId} {lb : Array Value} {Nm : Nat} {Hs : List HProp} {R : List Value → Prop} (hNm : Nm ≤ 1000000) (hg : bodyOk Tryz.prog g = true) (hit : Iter Tryz.prog g lb okJob Nm Hs R) (h : Sat S w (Hs ++ G)) :
    Ret Tryz.prog F.slices_AppendSeq_device_job_device_job #[.slice none 0 0, .func (.func g) #[] lb] w (fun v w' => ∃ xs, R xs ∧ Sat S w' (ownS T.device_job 4 v (xs.flatMap (fun x => x.cells.toList)) :: (Hs ++ G))) :=
  append_ret Tryz.func209 rfl rfl rfl (by kernel_rfl) (by kernel_rfl) (by kernel_rfl) (by kernel_rfl) (by kernel_rfl) hg (by decide) (job_round hNm) (fun x ⟨j, hj⟩ => by rw [hj]; rfl) hit h
theorem maps_Values_map_int_device_job_int_device_job_spec {b : Nat} (l : JL) (h : Sat S w (isMap encI b (jkv l) :: G)) :
    Ret Tryz.prog F.maps_Values_map_int_device_job_int_device_job #[.map (some b)] w (fun v w' => ∃ bm, v = .func (.func F.maps_Values_map_int_device_job_int_device_job_1) #[] #[.pointer (some ⟨bm, 0, none⟩)] ∧ Sat S w' (isMap encI b (jkv l) :: pt bm (.cells #[.map (some b)] T.map_int_device_job (0, 0)) :: G)) := by
  refine ret_of is_maps_Values_map_int_device_job_int_device_job rfl ?_
  repeat' (first | refine stPs ?_ | (refine stC0_P11i ?_; rintro _ w ⟨bx, rfl, h⟩) | fail)
  exact x_ret' is_maps_Values_map_int_device_job_int_device_job rfl ⟨_, rfl, h.sub (.cons (.there .here) (.cons .here (.refl _)))⟩
theorem slices_Collect_device_job_spec {b bm : Nat} (l : JL) (hl : l.length ≤ 1000) (h : Sat S w (isMap encI b (jkv l) :: pt bm (.cells #[.map (some b)] T.map_int_device_job (0, 0)) :: G)) :
    Ret Tryz.prog F.slices_Collect_device_job #[.func (.func F.maps_Values_map_int_device_job_int_device_job_1) #[] #[.pointer (some ⟨bm, 0, none⟩)]] w (fun v w' => ∃ xs : List JobM, xs.Perm (l.map (·.2)) ∧ Sat S w' (ownS T.device_job 4 v (rows jobC xs) :: isMap encI b (jkv l) :: pt bm (.cells #[.map (some b)] T.map_int_device_job (0, 0)) :: G)) := by
  refine ret_of is_slices_Collect_device_job rfl ?_
  repeat' (first | (refine gC F.slices_AppendSeq_device_job_device_job ?_; refine p_call rfl rfl (jobs_append (G := G) (by omega) bd_maps_Values_map_int_device_job_int_device_job_1 (jobs_values l) h) ?_; rintro v w ⟨xs, hxs, h⟩) | refine stP ?_ | fail)
  obtain ⟨us, rfl, hp⟩ := perm_map_inv jobV hxs.symm (l.map (·.2)) (by rw [List.map_map]; rfl)
  have hfl : (us.map jobV).flatMap (fun x => x.cells.toList) = rows jobC us := by
    rw [List.flatMap_map]; rfl
  rw [hfl] at h
  exact x_ret' is_slices_Collect_device_job rfl ⟨us, hp, h⟩
end
end Go.Proofs.YtflbfdmmfoigaaaGreat
