/- Layer 29 (meter): the busiest key. -/
import Derived.Test.YtojopmkekimpjaaHxS
import Derived.Test.YtojopmkekimpjaaP29
import Derived.Test.YtojopmkekimpjaaL29k
namespace Go.Proofs.Ytojopmkekimpjaa
open Go Go.HX
attribute [local irreducible] Ret XRun XOps XDr XOne Does Gives
set_option maxRecDepth 4000
set_option maxHeartbeats 1000000
abbrev KV := List (ByteArray × Value)
abbrev KP := Option (ByteArray × Value)
abbrev KC := List (ByteArray × Int)
abbrev BI := ByteArray × Int
abbrev encS : ByteArray → Value := fun s => .string s
theorem stC0_P29k {goal next : Prop} (k : next) (hs : Hid next → goal := by (intro k; (first | (refine gN ?_; refine p_do rfl (d_newL h (by first | (dsimp only [Value.cells]; done) | exact rfl)) ?_) | fail); exact k.out)) : goal := hs ⟨k⟩
theorem stC1_P29k {goal next : Prop} (k : next) (hs : Hid next → goal := by (intro k; (first | (refine gS ?_; (first | refine p_do rfl (d_stwL rfl rfl rfl rfl rfl (h.pick (by repeat first | exact .here | apply Has.there)) (by first | (dsimp only [Value.cells]; done) | exact rfl)) ?_ | refine p_do rfl (d_stL rfl rfl rfl (h.pick (by repeat first | exact .here | apply Has.there)) (by first | exact of_decide_eq_true rfl | simp) (by first | (dsimp only [List.set]; done) | exact rfl)) ?_)) | fail); exact k.out)) : goal := hs ⟨k⟩
theorem keyS : KeyOK Try.prog T.string encS := keyOK_str Try.underlying9
theorem kvC_mem {m : List (ByteArray × Int)} {x : ByteArray × Int} : (x.1, Value.int .i64 x.2) ∈ kvC m ↔ x ∈ m := by
  unfold kvC
  constructor
  · intro h
    obtain ⟨y, hy, he⟩ := List.mem_map.1 h
    injection he with h1 h2
    injection h2 with h3 h4
    rw [show x = y from Prod.ext h1.symm h4.symm]
    exact hy
  · exact fun h => List.mem_map.2 ⟨x, h, rfl⟩
theorem best_iff {L M : List (ByteArray × Int)} {r : ByteArray × Int} (h : Best L r) (e : ∀ x, x ∈ L ↔ x ∈ M) : Best M r :=
  ⟨h.1.imp id (e r).1, h.2.1, fun x hx => h.2.2 x ((e x).2 hx)⟩
/-- One came: it is with those that came, and not with those that are left. -/
theorem came {C past : List (ByteArray × Int)} {lf lf' : List (ByteArray × Value)} {x : ByteArray × Int} (h : ∀ y, y ∈ C ↔ y ∈ past ∨ (y.1, Value.int .i64 y.2) ∈ lf) (hp : lf.Perm ((x.1, Value.int .i64 x.2) :: lf')) : ∀ y, y ∈ C ↔ y ∈ past ++ [x] ∨ (y.1, Value.int .i64 y.2) ∈ lf' := fun y => by
  rw [h y, hp.mem_iff, List.mem_cons, List.mem_append, List.mem_singleton]
  constructor
  · rintro (h | h | h)
    · exact .inl (.inl h)
    · injection h with h1 h2
      injection h2 with h3 h4
      exact .inl (.inr (Prod.ext h1 h4))
    · exact .inr h
  · rintro ((h | h) | h)
    · exact .inl h
    · rw [h]; exact .inr (.inl rfl)
    · exact .inr (.inr h)
section
variable {S : SP} {w : World} {G : List HProp}

set_option maxHeartbeats 8000000 in
theorem meter_Busiest_spec {v : Value} (l : List EvM) (hl : l.length ≤ 1000) (hr : ∀ w, Sat S w G → RdS w 8 v (rows evC l)) (h : Sat S w G) :
    Ret Try.prog F.meter_Busiest #[v] w (fun u w' => (¬ mayE l ∧ u = .tuple #[.string ⟨#[]⟩, .int .i64 0, .int .i64 1] ∧ Sat S w' G) ∨ (mayE l ∧ ∃ r : ByteArray × Int, Best (cntsE l) r ∧ u = .tuple #[.string r.1, .int .i64 r.2, .int .i64 0] ∧ Sat S w' G)) := by
  obtain ⟨a, len, cap, rfl, _⟩ := hr w h
  have hlen := (hr w h).rlen evC_len (by decide)
  refine ret_of is_meter_Busiest rfl ?_
  by_cases hm : mayE l
  · repeat' (first | (refine gC F.meter_may ?_; refine p_call rfl rfl (meter_may_spec l (by omega) hr h) ?_; rintro _ w ⟨(⟨rfl, hb⟩ | ⟨rfl, hb⟩), h⟩; rotate_left; exact absurd hm hb) | (refine p_do rfl (d_mkm encS h) ?_; rintro _ w ⟨mb, rfl, h⟩) | refine stP ?_ | (refine stC0_P29k ?_; rintro _ w ⟨bx, rfl, h⟩) | (refine stC1_P29k ?_; rintro _ w ⟨rfl, h⟩) | (refine p_cmp rfl rfl rfl rfl (fun hc => ?_) (fun hc => ?_) <;> simp only [cmpProp] at hc) | fail)
    refine x_keep [5, 16, 17, 18] rfl ?_
    refine x_loop_inv (fun lm le w => ∃ (i : Nat), lm = len - i ∧ i ≤ len ∧ le = [(5, .map (some mb)), (16, .slice a len cap), (17, .int .i64 len), (18, .int .i64 i)] ∧ Sat S w (isMap encS mb (kvC (cntsE (l.take i))) :: G)) (len) ⟨0, rfl, by omega, rfl, h⟩ ?_
    clear h
    rintro lm le w ⟨i, rfl, hi0, rfl, h⟩ ih
    by_cases hi : i < len
    · obtain ⟨e, he⟩ := has_elem (show i < l.length by omega)
      obtain ⟨pa, po, rfl⟩ := (hr w h.drop).addr (by omega)
      obtain ⟨_, _, hg, _⟩ := cnts_mem l i (by omega)
      have hgb := cntK_bnd (l.take i) e.key
      rw [List.length_take] at hgb
      have hgk := hg e.key
      have hput := kvPut_C e.key (cntsE (l.take i))
      rw [← cnts_next he] at hput
      have hget := kvGet_C e.key (cntsE (l.take i))
      rw [hgk] at hput hget
      repeat' (first | (refine gL ?_; refine p_val rfl (g_ldE (i := i) evC_len rfl (hr _ h.drop) he (by omega)) ?_) | (refine p_val rfl (g_lkp (enc := encS) (v := e.key) keyS rfl rfl (h.pick (by repeat first | exact .here | apply Has.there))) ?_; rw [hget]) | (refine p_do rfl (d_mup (enc := encS) (v := e.key) keyS rfl rfl rfl (h.pick (by repeat first | exact .here | apply Has.there))) ?_; rw [hput]; rintro _ w ⟨rfl, h⟩) | refine stP ?_ | (refine stC0_P29k ?_; rintro _ w ⟨bx, rfl, h⟩) | (refine stC1_P29k ?_; rintro _ w ⟨rfl, h⟩) | (refine p_cmp rfl rfl rfl rfl (fun hc => ?_) (fun hc => ?_) <;> simp only [cmpProp] at hc) | fail)
      exact x_keep [5, 16, 17, 18] rfl (ih _ _ _ (by omega) ⟨i + 1, rfl, by omega, rfl, h.sub (.cons (by repeat first | exact .here | apply Has.there) (.skip (by repeat first | exact .refl _ | apply Sub.skip)))⟩)
    · rw [List.take_of_length_le (show l.length ≤ i by omega)] at h
      repeat' (first | (refine p_do rfl (d_rng (enc := encS) (kv := kvC (cntsE l)) rfl h) ?_; rintro _ w ⟨rb, rfl, h⟩) | refine stP ?_ | (refine stC0_P29k ?_; rintro _ w ⟨bx, rfl, h⟩) | (refine stC1_P29k ?_; rintro _ w ⟨rfl, h⟩) | (refine p_cmp rfl rfl rfl rfl (fun hc => ?_) (fun hc => ?_) <;> simp only [cmpProp] at hc) | fail)
      have k1 : ∀ y : BI, y ∈ cntsE l ↔ y ∈ ([] : KC) ∨ (y.1, Value.int .i64 y.2) ∈ kvC (cntsE l) := fun y => by rw [kvC_mem]; simp
      have k2 : ∀ p ∈ kvC (cntsE l), ∃ x ∈ cntsE l, p = (x.1, Value.int .i64 x.2) := fun p hp => (List.mem_map.1 hp).imp fun x hx => ⟨hx.1, hx.2.symm⟩
      refine x_keep [8, 9, 30] rfl ?_
      refine x_loop_inv (fun lm le w => ∃ (lf : KV), ∃ (cur : KP), ∃ (past : KC), ∃ (r : BI), lm = 1 + lf.length ∧ Best past r ∧ (∀ y, y ∈ cntsE l ↔ y ∈ past ∨ (y.1, Value.int .i64 y.2) ∈ lf) ∧ (∀ p ∈ lf, ∃ x ∈ cntsE l, p = (x.1, Value.int .i64 x.2)) ∧ le = [(8, .string r.1), (9, .int .i64 r.2), (30, .pointer (some ⟨rb, 0, none⟩))] ∧ Sat S w (isRng encS mb rb (kvC (cntsE l)) lf cur :: G)) (1 + (kvC (cntsE l)).length) ⟨kvC (cntsE l), none, [], (⟨#[]⟩, 0), rfl, best_none, k1, k2, rfl, h⟩ ?_
      clear h
      rintro lm le w ⟨lf, cur, past, r, rfl, hi0, hi1, hi2, rfl, h⟩ ih2
      repeat' (first | (refine p_do rfl (d_nxt rfl h) ?_; rintro _ w (⟨rfl, rfl, h⟩ | ⟨p, lf', hpm, rfl, h⟩)) | refine stP ?_ | (refine stC0_P29k ?_; rintro _ w ⟨bx, rfl, h⟩) | (refine stC1_P29k ?_; rintro _ w ⟨rfl, h⟩) | (refine p_cmp rfl rfl rfl rfl (fun hc => ?_) (fun hc => ?_) <;> simp only [cmpProp] at hc) | fail)
      · exact x_ret' is_meter_Busiest rfl (.inr ⟨hm, r, best_iff hi0 (fun y => by rw [hi1 y]; simp), rfl, h.drop⟩)
      obtain ⟨x, hx, rfl⟩ := hi2 p (hpm.mem_iff.2 (List.mem_cons_self ..))
      have hll := hpm.length_eq
      rw [List.length_cons] at hll
      by_cases hgt : r.2 < x.2
      · have hbt : beats x r := .inl hgt
        repeat' (first | (refine p_val rfl (g_ent rfl h) ?_) | refine stP ?_ | (refine stC0_P29k ?_; rintro _ w ⟨bx, rfl, h⟩) | (refine stC1_P29k ?_; rintro _ w ⟨rfl, h⟩) | (refine p_cmp rfl rfl rfl rfl (fun hc => ?_) (fun hc => ?_) <;> simp only [cmpProp] at hc) | fail)
        exact x_keep [8, 9, 30] rfl (ih2 _ _ _ (by omega) ⟨lf', some (x.1, .int .i64 x.2), past ++ [x], _, rfl, best_next hi0, came hi1 hpm, fun p hp => hi2 p (hpm.mem_iff.2 (List.mem_cons_of_mem _ hp)), by rw [if_pos hbt]; rfl, h⟩)
      by_cases heq : x.2 = r.2
      · by_cases hls : less x.1 r.1
        · have hbt : beats x r := .inr ⟨heq, hls⟩
          unfold less at hls
          repeat' (first | (refine p_val rfl (g_ent rfl h) ?_) | (refine p_val rfl (g_slt rfl rfl) ?_; rw [hls]) | refine stP ?_ | (refine stC0_P29k ?_; rintro _ w ⟨bx, rfl, h⟩) | (refine stC1_P29k ?_; rintro _ w ⟨rfl, h⟩) | (refine p_cmp rfl rfl rfl rfl (fun hc => ?_) (fun hc => ?_) <;> simp only [cmpProp] at hc) | fail)
          exact x_keep [8, 9, 30] rfl (ih2 _ _ _ (by omega) ⟨lf', some (x.1, .int .i64 x.2), past ++ [x], _, rfl, best_next hi0, came hi1 hpm, fun p hp => hi2 p (hpm.mem_iff.2 (List.mem_cons_of_mem _ hp)), by rw [if_pos hbt]; rfl, h⟩)
        · have hbt : ¬ beats x r := fun hx => hx.elim (fun h => hgt h) (fun h => hls h.2)
          have hls2 : Op.bytesLess x.1.toList r.1.toList = false := by unfold less at hls; simpa using hls
          repeat' (first | (refine p_val rfl (g_ent rfl h) ?_) | (refine p_val rfl (g_slt rfl rfl) ?_; rw [hls2]) | refine stP ?_ | (refine stC0_P29k ?_; rintro _ w ⟨bx, rfl, h⟩) | (refine stC1_P29k ?_; rintro _ w ⟨rfl, h⟩) | (refine p_cmp rfl rfl rfl rfl (fun hc => ?_) (fun hc => ?_) <;> simp only [cmpProp] at hc) | fail)
          exact x_keep [8, 9, 30] rfl (ih2 _ _ _ (by omega) ⟨lf', some (x.1, .int .i64 x.2), past ++ [x], _, rfl, best_next hi0, came hi1 hpm, fun p hp => hi2 p (hpm.mem_iff.2 (List.mem_cons_of_mem _ hp)), by rw [if_neg hbt], h⟩)
      · have hbt : ¬ beats x r := fun hx => hx.elim (fun h => hgt h) (fun h => heq h.1)
        repeat' (first | (refine p_val rfl (g_ent rfl h) ?_) | refine stP ?_ | (refine stC0_P29k ?_; rintro _ w ⟨bx, rfl, h⟩) | (refine stC1_P29k ?_; rintro _ w ⟨rfl, h⟩) | (refine p_cmp rfl rfl rfl rfl (fun hc => ?_) (fun hc => ?_) <;> simp only [cmpProp] at hc) | fail)
        exact x_keep [8, 9, 30] rfl (ih2 _ _ _ (by omega) ⟨lf', some (x.1, .int .i64 x.2), past ++ [x], _, rfl, best_next hi0, came hi1 hpm, fun p hp => hi2 p (hpm.mem_iff.2 (List.mem_cons_of_mem _ hp)), by rw [if_neg hbt], h⟩)
  · repeat' (first | (refine gC F.meter_may ?_; refine p_call rfl rfl (meter_may_spec l (by omega) hr h) ?_; rintro _ w ⟨(⟨rfl, hb⟩ | ⟨rfl, hb⟩), h⟩; exact absurd hb hm) | refine stP ?_ | (refine stC0_P29k ?_; rintro _ w ⟨bx, rfl, h⟩) | (refine stC1_P29k ?_; rintro _ w ⟨rfl, h⟩) | (refine p_cmp rfl rfl rfl rfl (fun hc => ?_) (fun hc => ?_) <;> simp only [cmpProp] at hc) | fail)
    exact x_ret' is_meter_Busiest rfl (.inl ⟨hm, rfl, h⟩)
end
end Go.Proofs.Ytojopmkekimpjaa
