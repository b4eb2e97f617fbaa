/- Layer 11 (device): what the document says of a crash. -/
import Derived.Test.YtfchenbihepjaaaHxS
import Derived.Test.YtfchenbihepjaaaP11f
namespace Go.Proofs.Ytfchenbihepjaaa
open Go Go.HX
attribute [local irreducible] Ret XRun XOps XDr XOne Does Gives
set_option maxRecDepth 4000
set_option maxHeartbeats 1000000
theorem stC0_P11g {goal next : Prop} (k : next) (hs : Hid next → goal := by (intro k; (first | (refine gC F.ref11_Device_Peek ?_; refine p_call rfl rfl (ref11_Device_Peek_spec _ _ _ ?_ (h.rf3)) ?_; iterate 1 (first | assumption | omega | (simp only []; omega) | decide)) | (refine gS ?_; (first | refine p_do rfl (d_stwL rfl rfl rfl rfl rfl (h.pick (by repeat first | exact .here | apply Has.there)) (by first | (dsimp only [Value.cells]; done) | exact rfl)) ?_ | refine p_do rfl (d_stL rfl rfl rfl (h.pick (by repeat first | exact .here | apply Has.there)) (by first | exact of_decide_eq_true rfl | simp) (by first | (dsimp only [List.set]; done) | exact rfl)) ?_)) | fail); exact k.out)) : goal := hs ⟨k⟩
theorem stC1_P11g {goal next : Prop} (k : next) (hs : Hid next → goal := by (intro k; (first | (refine gC F.ref11_Device_Lay ?_; refine p_call rfl rfl (ref11_Device_Lay_spec _ _ _ _ ?_ (h.rf3)) ?_; iterate 1 (first | assumption | omega | (simp only []; omega) | decide)) | fail); exact k.out)) : goal := hs ⟨k⟩
theorem stC2_P11g {goal next : Prop} (k : next) (hs : Hid next → goal := by (intro k; (first | (refine gN ?_; refine p_do rfl (d_newL h (by first | (dsimp only [Value.cells]; done) | exact rfl)) ?_) | fail); exact k.out)) : goal := hs ⟨k⟩
def goneJ (j : JobD) : JobD := { j with state := 2 }
def goneTo (i : Nat) (l : List JobD) : List JobD := (l.take i).map goneJ ++ l.drop i
theorem gone_len (i : Nat) (l : List JobD) : (goneTo i l).length = l.length := by
  unfold goneTo
  rw [List.length_append, List.length_map, List.length_take, List.length_drop]
  omega
theorem gone_zero (l : List JobD) : goneTo 0 l = l := rfl
theorem gone_all {i : Nat} {l : List JobD} (h : l.length ≤ i) : goneTo i l = l.map goneJ := by
  unfold goneTo
  rw [List.take_of_length_le h, List.drop_eq_nil_of_le h, List.append_nil]
theorem gone_get {i : Nat} {l : List JobD} {y : JobD} (h : l[i]? = some y) : (goneTo i l)[i]? = some y := by
  have hi := (List.getElem?_eq_some_iff.1 h).1
  unfold goneTo
  rw [List.getElem?_append_right (by rw [List.length_map, List.length_take]; omega), List.length_map, List.length_take, List.getElem?_drop, ← h]
  congr 1
  omega
theorem gone_set {i : Nat} {l : List JobD} {y : JobD} (h : l[i]? = some y) : (goneTo i l).set i (goneJ y) = goneTo (i + 1) l := by
  have hi := (List.getElem?_eq_some_iff.1 h).1
  have hm : ((l.take i).map goneJ).length = i := by rw [List.length_map, List.length_take]; omega
  unfold goneTo
  rw [List.set_append_right _ _ (by omega), hm, Nat.sub_self, drop_next h, List.set_cons_zero, take_next h, List.map_append, List.append_assoc]
  rfl
theorem lay_len (b : Int × Int) (s : ByteArray) : ∀ (put : Bool) (l : BL), (layGo b s put l).length ≤ l.length + (if put = true then 0 else 1)
  | true, [] => Nat.le_refl _
  | false, [] => Nat.le_refl _
  | true, x :: xs => by
    have h : (layGo b s true xs).length ≤ xs.length := lay_len b s true xs
    have h2 : (if x.1 = b then [] else [x] : BL).length ≤ 1 := by split <;> simp
    rw [layGo, if_neg (fun e => by cases e.1), List.nil_append, List.length_append, List.length_cons, Bool.true_or, if_pos rfl]
    omega
  | false, x :: xs => by
    have h2 : (if x.1 = b then [] else [x] : BL).length ≤ 1 := by split <;> simp
    rw [layGo, List.length_append, List.length_append, List.length_cons, Bool.false_or, if_neg (show ¬ false = true by decide)]
    by_cases h1 : leK b x.1
    · have h : (layGo b s true xs).length ≤ xs.length := lay_len b s true xs
      rw [if_pos ⟨rfl, h1⟩, decide_eq_true h1, List.length_singleton]
      omega
    · have h : (layGo b s false xs).length ≤ xs.length + 1 := lay_len b s false xs
      rw [if_neg (fun e => h1 e.2), decide_eq_false h1, List.length_nil]
      omega
theorem lay_mem (b : Int × Int) (s : ByteArray) : ∀ (put : Bool) (l : BL), ∀ p ∈ layGo b s put l, p ∈ l ∨ p = (b, s)
  | put, [], p, hp => by
    rw [layGo] at hp
    split at hp
    · cases hp
    · exact .inr (List.mem_singleton.1 hp)
  | put, x :: xs, p, hp => by
    rw [layGo] at hp
    rcases List.mem_append.1 hp with hp | hp
    · split at hp
      · exact .inr (List.mem_singleton.1 hp)
      · cases hp
    · rcases List.mem_append.1 hp with hp | hp
      · split at hp
        · cases hp
        · exact .inl (by rw [List.mem_singleton.1 hp]; exact List.mem_cons_self ..)
      · rcases lay_mem b s _ xs p hp with h | h
        · exact .inl (List.mem_cons_of_mem _ h)
        · exact .inr h
def crashD1 (j : JobD) (p : Int) (B : BL) : BL :=
  if p = 1 then layGo (j.area, j.no) j.s false B else if 1 < p then layGo (j.area, j.no) (tornB ((getL (j.area, j.no) B).getD ⟨#[]⟩) j.s p) false B else B
def crashDGo : List JobD → List Int → BL → BL
  | [], _, B => B
  | j :: js, ps, B => if j.state = 0 ∧ j.wr = true then crashDGo js ps.tail (crashD1 j (ps.headD 0) B) else crashDGo js ps B
def crashD (m : DocM) (picks : List Int) : Int × DocM :=
  if m.off = true then (6, m) else (0, ⟨true, crashDGo m.jobs picks m.items, m.jobs.map goneJ⟩)
theorem getD_size {b : Int × Int} {B : BL} (h : ∀ p ∈ B, p.2.size ≤ 131072) : ((getL b B).getD ⟨#[]⟩).size ≤ 131072 := by
  cases hg : getL b B with
  | none => exact Nat.zero_le _
  | some s => exact h _ (getL_mem hg)
theorem crashD1_len (j : JobD) (p : Int) (B : BL) : (crashD1 j p B).length ≤ B.length + 1 := by
  unfold crashD1
  split
  · exact lay_len _ _ false B
  · split
    · exact lay_len _ _ false B
    · omega
theorem crashD1_size {j : JobD} {q : Int} {B : BL} (hj : j.s.size ≤ 131072) (h : ∀ p ∈ B, p.2.size ≤ 131072) : ∀ p ∈ crashD1 j q B, p.2.size ≤ 131072 := by
  intro p hp
  unfold crashD1 at hp
  split at hp
  · rcases lay_mem _ _ _ _ _ hp with hp | rfl
    · exact h p hp
    · exact hj
  · split at hp
    · rcases lay_mem _ _ _ _ _ hp with hp | rfl
      · exact h p hp
      · have h1 := tornB_size ((getL (j.area, j.no) B).getD ⟨#[]⟩) j.s q
        have h2 := getD_size (b := (j.area, j.no)) h
        show (tornB ((getL (j.area, j.no) B).getD ⟨#[]⟩) j.s q).size ≤ 131072
        omega
    · exact h p hp
theorem cat_next {A was : ByteArray} {n k : Nat} (h : n ≤ k) : (A ++ was.extract n k) ++ was.extract k (k + 1) = A ++ was.extract n (k + 1) := by
  rw [ByteArray.append_assoc, ByteArray.extract_append_extract, Nat.min_eq_left h, Nat.max_eq_right (by omega)]
theorem torn_end {was data : ByteArray} {p : Int} {k : Nat} (h1 : tornN data p ≤ k) (h2 : k ≤ was.size ∨ k = tornN data p) (h3 : ¬ k < was.size) : data.extract 0 (tornN data p) ++ was.extract (tornN data p) k = tornB was data p := by
  unfold tornB
  generalize tornN data p = n at h1 h2
  rcases h2 with h2 | rfl
  · obtain rfl : k = was.size := by omega
    rw [Nat.min_eq_left h1]
  · rw [Nat.min_eq_right (by omega), ByteArray.extract_same, ByteArray.extract_same]
section
variable {S : SP} {w : World} {G : List HProp}
-- MACRO LDG() = (refine gL ?_; refine p_val (dst := some 33) rfl (g_ldE (i := i) jobDC_len rfl (ownS_rd h (by repeat first | exact .here | apply Has.there)) hgi (by omega)) ?_)
-- MACRO STG(qw) = (refine p_do rfl (d_stR (f := 5) (a' := ⟨ya, yn, qw, ys, ynn, 2⟩) jobDC_len rfl rfl rfl (h.pick (by repeat first | exact .here | apply Has.there)) hgi rfl (by decide) (by omega)) ?_; rintro _ w ⟨rfl, h⟩; rw [hgs] at h)
-- MACRO PCK() = (refine gL ?_; refine p_val (dst := some 48) rfl (g_ldV (i := n) rfl (hr w (h.sub (by repeat first | exact .refl _ | apply Sub.skip))) (by omega) hpk) ?_)
-- MACRO PKC() = (refine gC F.ref11_Device_Peek ?_; refine p_call rfl rfl (ref11_Device_Peek_spec ⟨false, B, goneTo i jobs⟩ ya yn hBl (h.rf3)) ?_; dsimp only; rw [hws]; rintro _ w ⟨rfl, h⟩)
-- MACRO LAYC(qs) = (refine gC F.ref11_Device_Lay ?_; refine p_call rfl rfl (ref11_Device_Lay_spec ⟨false, B, goneTo i jobs⟩ ya yn (qs) hBl (h.rf3)) ?_; dsimp only; rintro _ w ⟨rfl, iv2, h⟩)
-- MACRO LBQ(qd) = (refine p_val (dst := some qd) rfl (g_ldq (vs := [.int .i64 ya, .int .i64 yn]) rfl (h.at (by repeat first | exact .here | apply Has.there)) rfl rfl) ?_)
-- MACRO KEEPG(qn, qb, qe, ql, qz) = exact x_keep [0, 1, 5, 6] rfl (ih _ _ _ (by omega) ⟨i + 1, qn, qb, _, rfl, by omega, by omega, ql, qz, qe, rfl, h.pm3⟩)
set_option maxHeartbeats 16000000 in
theorem ref11_Device_Crash_spec {mb pl pc : Nat} {pa : Option Addr} {iv jv : Value} (m : DocM) (picks : List Int) (hl : m.jobs.length ≤ 400) (hli : m.items.length ≤ 400) (hsj : ∀ j ∈ m.jobs, j.s.size ≤ 131072) (hsz : ∀ p ∈ m.items, p.2.size ≤ 131072) (hpk9 : ∀ p ∈ picks, p ≤ 9223372036854775807) (hr : ∀ w, Sat S w G → RdS w 1 (.slice pa pl pc) (ints .i64 picks)) (h : Sat S w (pt mb (.cells #[.bool (m).off, iv, jv] T.haycroftref11_Device (0, 0)) :: ownS T.haycroftref11_Item 3 iv (rows itemC (m).items) :: ownS T.haycroftref11_Job 6 jv (rows jobDC (m).jobs) :: G)) :
    Ret Try.prog F.ref11_Device_Crash #[.pointer (some ⟨mb, 0, none⟩), .slice pa pl pc] w (fun v w' => v = .int .i64 (crashD m picks).1 ∧ ∃ iv, Sat S w' (pt mb (.cells #[.bool ((crashD m picks).2).off, iv, jv] T.haycroftref11_Device (0, 0)) :: ownS T.haycroftref11_Item 3 iv (rows itemC ((crashD m picks).2).items) :: ownS T.haycroftref11_Job 6 jv (rows jobDC ((crashD m picks).2).jobs) :: G)) := by
  obtain ⟨off, items, jobs⟩ := m
  dsimp only at hl hli hsj hsz h
  unfold crashD
  refine ret_of is_ref11_Device_Crash rfl ?_
  cases off
  · dsimp only at h ⊢
    rw [if_neg (by simp)]
    obtain ⟨va, vl, vc, rfl, hvl, _⟩ := ownS_slice h (.there (.there .here))
    rw [rows_length jobDC_len] at hvl
    have hpl := (hr w (h.sub (by repeat first | exact .refl _ | apply Sub.skip))).ilen
    repeat' (first | contradiction | refine stP ?_ | (refine stC0_P11g ?_; rintro _ w ⟨rfl, h⟩) | (refine stC1_P11g ?_; rintro _ w ⟨rfl, ⟨iv, h⟩⟩) | (refine stC2_P11g ?_; rintro _ w ⟨bx, rfl, h⟩) | (refine p_cmp rfl rfl rfl rfl (fun hc => ?_) (fun hc => ?_) <;> simp only [cmpProp] at hc) | fail)
    rw [← gone_zero jobs] at h
    refine x_keep [0, 1, 5, 6] rfl ?_
    refine x_loop_inv (fun lm le w => ∃ (i : Nat), ∃ (n : Nat), ∃ (B : BL), ∃ (iv : Value), lm = vl - i ∧ i ≤ vl ∧ n ≤ i ∧ B.length ≤ items.length + i ∧ (∀ p ∈ B, p.2.size ≤ 131072) ∧ crashDGo jobs picks items = crashDGo (jobs.drop i) (picks.drop n) B ∧ le = [(0, .pointer (some ⟨mb, 0, none⟩)), (1, .slice pa pl pc), (5, .int .i64 n), (6, .int .i64 i)] ∧ Sat S w (pt mb (.cells #[.bool false, iv, .slice va vl vc] T.haycroftref11_Device (0, 0)) :: ownS T.haycroftref11_Item 3 iv (rows itemC B) :: ownS T.haycroftref11_Job 6 (.slice va vl vc) (rows jobDC (goneTo i jobs)) :: G)) (vl) ⟨0, 0, items, iv, rfl, by omega, Nat.le_refl _, Nat.le_refl _, hsz, rfl, rfl, h⟩ ?_
    clear h
    rintro lm le w ⟨i, n, B, iv, rfl, hi0, hi1, hi2, hi3, hi4, rfl, h⟩ ih
    by_cases hi : i < vl
    · obtain ⟨y, hyi⟩ := has_elem (show i < jobs.length by omega)
      have hgi := gone_get hyi
      have hgz := gone_set hyi
      have hBl : B.length ≤ 1000 := by omega
      have hys := hsj y (List.mem_of_getElem? hyi)
      obtain ⟨vo, rfl⟩ := ownS_addr (E := T.haycroftref11_Job) h (.there (.there .here)) (by omega)
      rw [drop_next hyi, crashDGo] at hi4
      obtain ⟨ya, yn, yw, ys, ynn, yst⟩ := y
      have hgs : (goneTo i jobs).set i ⟨ya, yn, yw, ys, ynn, 2⟩ = goneTo (i + 1) jobs := hgz
      clear hgz
      dsimp only at hi4 hys
      by_cases hs : yst = 0 ∧ yw = true
      · rw [if_pos hs] at hi4
        obtain ⟨rfl, rfl⟩ := hs
        obtain ⟨ws, hws⟩ : ∃ u, (getL (ya, yn) B).getD ⟨#[]⟩ = u := ⟨_, rfl⟩
        have hwz := getD_size (b := (ya, yn)) hi3
        rw [hws] at hwz
        have hcl := fun q => crashD1_len ⟨ya, yn, true, ys, ynn, 0⟩ q B
        have hcz := fun q => crashD1_size (j := ⟨ya, yn, true, ys, ynn, 0⟩) (q := q) hys hi3
        by_cases hn : n < pl
        · obtain ⟨p, hp⟩ := has_elem (show n < picks.length by omega)
          have hpk : (ints .i64 picks)[n]? = some (.int .i64 p) := by rw [ints_map, List.getElem?_map, hp]; rfl
          have hp9 := hpk9 p (List.mem_of_getElem? hp)
          obtain ⟨pb, po, rfl⟩ := (hr w (h.sub (by repeat first | exact .refl _ | apply Sub.skip))).addr (by omega)
          rw [drop_next hp] at hi4
          have hi4 : crashDGo jobs picks items = crashDGo (jobs.drop (i + 1)) (picks.drop (n + 1)) (crashD1 ⟨ya, yn, true, ys, ynn, 0⟩ p B) := hi4
          have hcl := hcl p
          have hcz := hcz p
          by_cases p1 : p = 1
          · subst p1
            have e1 : crashD1 ⟨ya, yn, true, ys, ynn, 0⟩ 1 B = layGo (ya, yn) ys false B := rfl
            rw [e1] at hi4 hcl hcz
            repeat' (first | contradiction | (refine gL ?_; refine p_val (dst := some 33) rfl (g_ldE (i := i) jobDC_len rfl (ownS_rd h (by repeat first | exact .here | apply Has.there)) hgi (by omega)) ?_) | (refine gL ?_; refine p_val (dst := some 48) rfl (g_ldV (i := n) rfl (hr w (h.sub (by repeat first | exact .refl _ | apply Sub.skip))) (by omega) hpk) ?_) | (refine p_val (dst := some 54) rfl (g_ldq (vs := [.int .i64 ya, .int .i64 yn]) rfl (h.at (by repeat first | exact .here | apply Has.there)) rfl rfl) ?_) | (refine gC F.ref11_Device_Peek ?_; refine p_call rfl rfl (ref11_Device_Peek_spec ⟨false, B, goneTo i jobs⟩ ya yn hBl (h.rf3)) ?_; dsimp only; rw [hws]; rintro _ w ⟨rfl, h⟩) | (refine p_val (dst := some 62) rfl (g_ldq (vs := [.int .i64 ya, .int .i64 yn]) rfl (h.at (by repeat first | exact .here | apply Has.there)) rfl rfl) ?_) | (refine gC F.ref11_Device_Lay ?_; refine p_call rfl rfl (ref11_Device_Lay_spec ⟨false, B, goneTo i jobs⟩ ya yn (ys) hBl (h.rf3)) ?_; dsimp only; rintro _ w ⟨rfl, iv2, h⟩) | (refine p_do rfl (d_stR (f := 5) (a' := ⟨ya, yn, true, ys, ynn, 2⟩) jobDC_len rfl rfl rfl (h.pick (by repeat first | exact .here | apply Has.there)) hgi rfl (by decide) (by omega)) ?_; rintro _ w ⟨rfl, h⟩; rw [hgs] at h) | refine stP ?_ | (refine stC0_P11g ?_; rintro _ w ⟨rfl, h⟩) | (refine stC1_P11g ?_; rintro _ w ⟨rfl, ⟨iv, h⟩⟩) | (refine stC2_P11g ?_; rintro _ w ⟨bx, rfl, h⟩) | (refine p_cmp rfl rfl rfl rfl (fun hc => ?_) (fun hc => ?_) <;> simp only [cmpProp] at hc) | fail)
            exact x_keep [0, 1, 5, 6] rfl (ih _ _ _ (by omega) ⟨i + 1, n + 1, _, _, rfl, by omega, by omega, by omega, hcz, hi4, rfl, h.pm3⟩)
          · by_cases p2 : 1 < p
            · have e1 : crashD1 ⟨ya, yn, true, ys, ynn, 0⟩ p B = layGo (ya, yn) (tornB ((getL (ya, yn) B).getD ⟨#[]⟩) ys p) false B := by
                unfold crashD1
                rw [if_neg p1, if_pos p2]
              rw [hws] at e1
              rw [e1] at hi4 hcl hcz
              have htn := tornN_le ys p
              have hn2 : (p - 2) % ((ys.size : Int) + 1) = (tornN ys p : Nat) := by
                unfold tornN
                exact (Int.toNat_of_nonneg (Int.emod_nonneg _ (by omega))).symm
              repeat' (first | contradiction | (refine gL ?_; refine p_val (dst := some 33) rfl (g_ldE (i := i) jobDC_len rfl (ownS_rd h (by repeat first | exact .here | apply Has.there)) hgi (by omega)) ?_) | (refine gL ?_; refine p_val (dst := some 48) rfl (g_ldV (i := n) rfl (hr w (h.sub (by repeat first | exact .refl _ | apply Sub.skip))) (by omega) hpk) ?_) | (refine p_val (dst := some 54) rfl (g_ldq (vs := [.int .i64 ya, .int .i64 yn]) rfl (h.at (by repeat first | exact .here | apply Has.there)) rfl rfl) ?_) | (refine gC F.ref11_Device_Peek ?_; refine p_call rfl rfl (ref11_Device_Peek_spec ⟨false, B, goneTo i jobs⟩ ya yn hBl (h.rf3)) ?_; dsimp only; rw [hws]; rintro _ w ⟨rfl, h⟩) | (refine gB .rem ?_; refine p_val rfl (g_rem_i rfl rfl (by omega) (by omega)) ?_; rw [hn2]) | (refine p_val (dst := some 78) rfl (g_sls (l' := 0) (h' := tornN ys p) rfl rfl rfl rfl rfl (by omega) htn) ?_) | refine stP ?_ | (refine stC0_P11g ?_; rintro _ w ⟨rfl, h⟩) | (refine stC1_P11g ?_; rintro _ w ⟨rfl, ⟨iv, h⟩⟩) | (refine stC2_P11g ?_; rintro _ w ⟨bx, rfl, h⟩) | (refine p_cmp rfl rfl rfl rfl (fun hc => ?_) (fun hc => ?_) <;> simp only [cmpProp] at hc) | fail)
              obtain ⟨q, rfl⟩ : ∃ q, q = bx := ⟨bx, rfl⟩
              refine x_keep [0, 1, 5, 6, 7, 9, 12, 13] rfl ?_
              refine x_loop_inv (fun lm le w => ∃ (k : Nat), ∃ (cur : ByteArray), lm = ws.size - k ∧ tornN ys p ≤ k ∧ (k ≤ ws.size ∨ k = tornN ys p) ∧ cur = ys.extract 0 (tornN ys p) ++ ws.extract (tornN ys p) k ∧ le = [(0, .pointer (some ⟨mb, 0, none⟩)), (1, .slice (some ⟨pb, po, none⟩) pl pc), (5, .int .i64 (n + 1 : Nat)), (6, .int .i64 i), (7, .pointer (some ⟨q, 0, none⟩)), (9, .string ws), (12, .string cur), (13, .int .i64 k)] ∧ Sat S w (pt mb (.cells #[.bool false, iv, .slice (some ⟨vo, 0, none⟩) vl vc] T.haycroftref11_Device (0, 0)) :: ownS T.haycroftref11_Item 3 iv (rows itemC B) :: ownS T.haycroftref11_Job 6 (.slice (some ⟨vo, 0, none⟩) vl vc) (rows jobDC (goneTo i jobs)) :: pt q (.cells (jobDC ⟨ya, yn, true, ys, ynn, 0⟩).toArray T.haycroftref11_Job (0, 0)) :: G)) (ws.size - tornN ys p) ⟨tornN ys p, _, rfl, Nat.le_refl _, .inr rfl, by rw [ByteArray.extract_same, ByteArray.append_empty], rfl, h⟩ ?_
              clear h
              rintro lm le w ⟨k, cur, rfl, hi0, hi1, hi2, rfl, h⟩ ih2
              by_cases hk : k < ws.size
              · have hsz : cur.size + (ws.extract k (k + 1)).size ≤ 9223372036854775807 := by
                  rw [hi2, ByteArray.size_append, ByteArray.size_extract, ByteArray.size_extract, ByteArray.size_extract]
                  omega
                repeat' (first | contradiction | (refine p_val (dst := some 91) rfl (g_sls (l' := k) (h' := k + 1) rfl rfl rfl rfl (show ((k + 1 : Nat) : Int) = (k : Int) + 1 by omega) (by omega) (by omega)) ?_) | (refine p_val (dst := some 92) rfl (g_sadd rfl rfl hsz) ?_) | refine stP ?_ | (refine stC0_P11g ?_; rintro _ w ⟨rfl, h⟩) | (refine stC1_P11g ?_; rintro _ w ⟨rfl, ⟨iv, h⟩⟩) | (refine stC2_P11g ?_; rintro _ w ⟨bx, rfl, h⟩) | (refine p_cmp rfl rfl rfl rfl (fun hc => ?_) (fun hc => ?_) <;> simp only [cmpProp] at hc) | fail)
                exact x_keep [0, 1, 5, 6, 7, 9, 12, 13] rfl (ih2 _ _ _ (by omega) ⟨k + 1, cur ++ ws.extract k (k + 1), rfl, by omega, by omega, by rw [hi2, cat_next hi0], rfl, h⟩)
              · rw [torn_end hi0 hi1 hk] at hi2
                subst hi2
                repeat' (first | contradiction | (refine p_val (dst := some 95) rfl (g_ldq (vs := [.int .i64 ya, .int .i64 yn]) rfl (h.at (by repeat first | exact .here | apply Has.there)) rfl rfl) ?_) | (refine gC F.ref11_Device_Lay ?_; refine p_call rfl rfl (ref11_Device_Lay_spec ⟨false, B, goneTo i jobs⟩ ya yn (tornB ws ys p) hBl (h.rf3)) ?_; dsimp only; rintro _ w ⟨rfl, iv2, h⟩) | (refine p_do rfl (d_stR (f := 5) (a' := ⟨ya, yn, true, ys, ynn, 2⟩) jobDC_len rfl rfl rfl (h.pick (by repeat first | exact .here | apply Has.there)) hgi rfl (by decide) (by omega)) ?_; rintro _ w ⟨rfl, h⟩; rw [hgs] at h) | refine stP ?_ | (refine stC0_P11g ?_; rintro _ w ⟨rfl, h⟩) | (refine stC1_P11g ?_; rintro _ w ⟨rfl, ⟨iv, h⟩⟩) | (refine stC2_P11g ?_; rintro _ w ⟨bx, rfl, h⟩) | (refine p_cmp rfl rfl rfl rfl (fun hc => ?_) (fun hc => ?_) <;> simp only [cmpProp] at hc) | fail)
                exact x_keep [0, 1, 5, 6] rfl (ih _ _ _ (by omega) ⟨i + 1, n + 1, _, _, rfl, by omega, by omega, by omega, hcz, hi4, rfl, h.pm3⟩)
            · have e1 : crashD1 ⟨ya, yn, true, ys, ynn, 0⟩ p B = B := by
                unfold crashD1
                rw [if_neg p1, if_neg p2]
              rw [e1] at hi4 hcl hcz
              repeat' (first | contradiction | (refine gL ?_; refine p_val (dst := some 33) rfl (g_ldE (i := i) jobDC_len rfl (ownS_rd h (by repeat first | exact .here | apply Has.there)) hgi (by omega)) ?_) | (refine gL ?_; refine p_val (dst := some 48) rfl (g_ldV (i := n) rfl (hr w (h.sub (by repeat first | exact .refl _ | apply Sub.skip))) (by omega) hpk) ?_) | (refine p_val (dst := some 54) rfl (g_ldq (vs := [.int .i64 ya, .int .i64 yn]) rfl (h.at (by repeat first | exact .here | apply Has.there)) rfl rfl) ?_) | (refine gC F.ref11_Device_Peek ?_; refine p_call rfl rfl (ref11_Device_Peek_spec ⟨false, B, goneTo i jobs⟩ ya yn hBl (h.rf3)) ?_; dsimp only; rw [hws]; rintro _ w ⟨rfl, h⟩) | (refine p_do rfl (d_stR (f := 5) (a' := ⟨ya, yn, true, ys, ynn, 2⟩) jobDC_len rfl rfl rfl (h.pick (by repeat first | exact .here | apply Has.there)) hgi rfl (by decide) (by omega)) ?_; rintro _ w ⟨rfl, h⟩; rw [hgs] at h) | refine stP ?_ | (refine stC0_P11g ?_; rintro _ w ⟨rfl, h⟩) | (refine stC1_P11g ?_; rintro _ w ⟨rfl, ⟨iv, h⟩⟩) | (refine stC2_P11g ?_; rintro _ w ⟨bx, rfl, h⟩) | (refine p_cmp rfl rfl rfl rfl (fun hc => ?_) (fun hc => ?_) <;> simp only [cmpProp] at hc) | fail)
              exact x_keep [0, 1, 5, 6] rfl (ih _ _ _ (by omega) ⟨i + 1, n + 1, _, _, rfl, by omega, by omega, by omega, hcz, hi4, rfl, h.pm3⟩)
        · have hdn : picks.drop n = [] := List.drop_eq_nil_of_le (by omega)
          rw [hdn] at hi4
          have hi4 : crashDGo jobs picks items = crashDGo (jobs.drop (i + 1)) (picks.drop (n + 1)) B := by
            rw [hi4, List.drop_eq_nil_of_le (show picks.length ≤ n + 1 by omega)]
            rfl
          repeat' (first | contradiction | (refine gL ?_; refine p_val (dst := some 33) rfl (g_ldE (i := i) jobDC_len rfl (ownS_rd h (by repeat first | exact .here | apply Has.there)) hgi (by omega)) ?_) | (refine p_val (dst := some 54) rfl (g_ldq (vs := [.int .i64 ya, .int .i64 yn]) rfl (h.at (by repeat first | exact .here | apply Has.there)) rfl rfl) ?_) | (refine gC F.ref11_Device_Peek ?_; refine p_call rfl rfl (ref11_Device_Peek_spec ⟨false, B, goneTo i jobs⟩ ya yn hBl (h.rf3)) ?_; dsimp only; rw [hws]; rintro _ w ⟨rfl, h⟩) | (refine p_do rfl (d_stR (f := 5) (a' := ⟨ya, yn, true, ys, ynn, 2⟩) jobDC_len rfl rfl rfl (h.pick (by repeat first | exact .here | apply Has.there)) hgi rfl (by decide) (by omega)) ?_; rintro _ w ⟨rfl, h⟩; rw [hgs] at h) | refine stP ?_ | (refine stC0_P11g ?_; rintro _ w ⟨rfl, h⟩) | (refine stC1_P11g ?_; rintro _ w ⟨rfl, ⟨iv, h⟩⟩) | (refine stC2_P11g ?_; rintro _ w ⟨bx, rfl, h⟩) | (refine p_cmp rfl rfl rfl rfl (fun hc => ?_) (fun hc => ?_) <;> simp only [cmpProp] at hc) | fail)
          exact x_keep [0, 1, 5, 6] rfl (ih _ _ _ (by omega) ⟨i + 1, n + 1, B, _, rfl, by omega, by omega, by omega, hi3, hi4, rfl, h.pm3⟩)
      · rw [if_neg hs] at hi4
        cases yw
        · repeat' (first | contradiction | (refine gL ?_; refine p_val (dst := some 33) rfl (g_ldE (i := i) jobDC_len rfl (ownS_rd h (by repeat first | exact .here | apply Has.there)) hgi (by omega)) ?_) | (refine p_do rfl (d_stR (f := 5) (a' := ⟨ya, yn, false, ys, ynn, 2⟩) jobDC_len rfl rfl rfl (h.pick (by repeat first | exact .here | apply Has.there)) hgi rfl (by decide) (by omega)) ?_; rintro _ w ⟨rfl, h⟩; rw [hgs] at h) | refine stP ?_ | (refine stC0_P11g ?_; rintro _ w ⟨rfl, h⟩) | (refine stC1_P11g ?_; rintro _ w ⟨rfl, ⟨iv, h⟩⟩) | (refine stC2_P11g ?_; rintro _ w ⟨bx, rfl, h⟩) | (refine p_cmp rfl rfl rfl rfl (fun hc => ?_) (fun hc => ?_) <;> simp only [cmpProp] at hc) | fail)
          all_goals exact x_keep [0, 1, 5, 6] rfl (ih _ _ _ (by omega) ⟨i + 1, n, B, _, rfl, by omega, by omega, by omega, hi3, hi4, rfl, h.pm3⟩)
        · have hst : ¬ yst = 0 := fun e => hs ⟨e, rfl⟩
          repeat' (first | contradiction | (refine gL ?_; refine p_val (dst := some 33) rfl (g_ldE (i := i) jobDC_len rfl (ownS_rd h (by repeat first | exact .here | apply Has.there)) hgi (by omega)) ?_) | (refine p_do rfl (d_stR (f := 5) (a' := ⟨ya, yn, true, ys, ynn, 2⟩) jobDC_len rfl rfl rfl (h.pick (by repeat first | exact .here | apply Has.there)) hgi rfl (by decide) (by omega)) ?_; rintro _ w ⟨rfl, h⟩; rw [hgs] at h) | refine stP ?_ | (refine stC0_P11g ?_; rintro _ w ⟨rfl, h⟩) | (refine stC1_P11g ?_; rintro _ w ⟨rfl, ⟨iv, h⟩⟩) | (refine stC2_P11g ?_; rintro _ w ⟨bx, rfl, h⟩) | (refine p_cmp rfl rfl rfl rfl (fun hc => ?_) (fun hc => ?_) <;> simp only [cmpProp] at hc) | fail)
          exact x_keep [0, 1, 5, 6] rfl (ih _ _ _ (by omega) ⟨i + 1, n, B, _, rfl, by omega, by omega, by omega, hi3, hi4, rfl, h.pm3⟩)
    · obtain rfl : i = vl := by omega
      rw [gone_all (by omega)] at h
      rw [List.drop_eq_nil_of_le (by omega), crashDGo] at hi4
      repeat' (first | contradiction | refine stP ?_ | (refine stC0_P11g ?_; rintro _ w ⟨rfl, h⟩) | (refine stC1_P11g ?_; rintro _ w ⟨rfl, ⟨iv, h⟩⟩) | (refine stC2_P11g ?_; rintro _ w ⟨bx, rfl, h⟩) | (refine p_cmp rfl rfl rfl rfl (fun hc => ?_) (fun hc => ?_) <;> simp only [cmpProp] at hc) | fail)
      exact x_ret' is_ref11_Device_Crash rfl ⟨rfl, _, by rw [hi4]; exact h.pm3⟩
  · dsimp only at h ⊢
    rw [if_pos rfl]
    repeat' (first | contradiction | refine stP ?_ | (refine stC0_P11g ?_; rintro _ w ⟨rfl, h⟩) | (refine stC1_P11g ?_; rintro _ w ⟨rfl, ⟨iv, h⟩⟩) | (refine stC2_P11g ?_; rintro _ w ⟨bx, rfl, h⟩) | (refine p_cmp rfl rfl rfl rfl (fun hc => ?_) (fun hc => ?_) <;> simp only [cmpProp] at hc) | fail)
    exact x_ret' is_ref11_Device_Crash rfl ⟨rfl, _, h.pm3⟩
end
end Go.Proofs.Ytfchenbihepjaaa
