/- Layer 17 (index): what each function computes. -/
import Derived.Test.YtmlkeackapflhaaHxS
import Derived.Test.YtmlkeackapflhaaP05
import Derived.Test.YtmlkeackapflhaaP16
import Derived.Test.YtmlkeackapflhaaP03
namespace Go.Proofs.Ytmlkeackapflhaa
open Go Go.HX
attribute [local irreducible] Ret XRun XOps XDr XOne Does Gives
set_option maxRecDepth 4000
set_option maxHeartbeats 1000000
theorem stC0_P17 {goal next : Prop} (k : next) (hs : Hid next → goal := by (intro k; (first | (refine gC F.mix_May ?_; refine p_call rfl rfl (mix_May_spec _ h) ?_) | fail); exact k.out)) : goal := hs ⟨k⟩
theorem stC1_P17 {goal next : Prop} (k : next) (hs : Hid next → goal := by (intro k; (first | (refine gC F.cell_New ?_; refine p_call rfl rfl (cell_New_spec _ h) ?_) | fail); exact k.out)) : goal := hs ⟨k⟩
theorem stC2_P17 {goal next : Prop} (k : next) (hs : Hid next → goal := by (intro k; (first | (refine gBx ?_; refine p_do rfl (d_boxL rfl h (by first | (dsimp only [Value.cells]; done) | exact rfl)) ?_) | fail); exact k.out)) : goal := hs ⟨k⟩
theorem stC3_P17 {goal next : Prop} (k : next) (hs : Hid next → goal := by (intro k; (first | (refine gC F.cell_Row_Load ?_; refine p_call rfl rfl (cell_Row_Load_spec _ (h.rf1)) ?_) | (refine gC F.cell_Row_Load ?_; refine p_call rfl rfl (cell_Row_Load_nil _ h) ?_) | (refine gC F.index_Index_all ?_; refine p_call rfl rfl (index_Index_all_nil h) ?_) | (refine gC F.index_Index_all ?_; refine p_call rfl rfl (index_Index_all_spec ?_ (h.rf1)) ?_; iterate 1 (first | assumption | omega | (simp only []; omega) | decide)) | (refine gC F.index_Index_link ?_; refine p_call rfl rfl (index_Index_link_spec ?_ _ ?_ (h.rf2)) ?_; iterate 2 (first | assumption | omega | (simp only []; omega) | decide)) | (refine gC F.slices_Index_int_int ?_; refine p_call rfl rfl (slices_Index_int_int_spec _ _ ?_ (h.rf1)) ?_; iterate 1 (first | assumption | omega | (simp only []; omega) | decide)) | fail); exact k.out)) : goal := hs ⟨k⟩
/-- An index: buckets, spare ones, its cells, how many spare ones are taken. -/
structure IdxM where
  nb : Nat
  sp : Nat
  row : RowM
  tk : RowM
def IdxM.all (x : IdxM) : Nat := x.nb + x.sp
/-- A bucket's link: 0, or the bucket behind it and one. -/
def IdxM.lnk (x : IdxM) (b : Nat) : Nat := (x.row.ws.getD (b * 8 + 7) 0).toNat
def IdxM.taken (x : IdxM) : Nat := (x.tk.ws.getD 0 0).toNat
structure IdxOk (x : IdxM) : Prop where
  may : mayN x.nb
  sp : x.sp ≤ 64
  len : x.row.ws.length = x.all * 8
  link : ∀ b, b < x.all → x.lnk b ≤ x.all
  tlen : x.tk.ws.length = 1
  tk : x.taken ≤ x.sp
def idxC (x : IdxM) (c d : Nat) : Array Value := #[.int .i64 x.nb, .int .i64 x.sp, .pointer (some ⟨c, 0, none⟩), .pointer (some ⟨d, 0, none⟩)]
/-- Buckets, from one on, by their links. -/
def chainG (lnk : Nat → Nat) : Nat → Nat → List Nat
  | 0, _ => []
  | f + 1, b => b :: (if lnk b = 0 then [] else chainG lnk f (lnk b - 1))
def IdxM.chain (x : IdxM) (b : Nat) : List Nat := chainG x.lnk (x.all + 1) b
def IdxM.chainZ (x : IdxM) (b : Int) : List Nat := if 0 ≤ b ∧ b < x.all then x.chain b.toNat else []
def natsZ (l : List Nat) : List Int := l.map (fun n : Nat => (n : Int))
/-- The slots of buckets. -/
def slotsG (l : List Nat) : List Nat := l.flatMap (fun b => (List.range 7).map (fun k => b * 8 + k))
theorem chainG_length (lnk : Nat → Nat) : ∀ f b, (chainG lnk f b).length ≤ f
  | 0, _ => by simp [chainG]
  | f + 1, b => by
    have := chainG_length lnk f (lnk b - 1)
    simp only [chainG]
    split <;> simp; omega
theorem chainG_all {lnk : Nat → Nat} {n : Nat} (h : ∀ b, b < n → lnk b ≤ n) : ∀ f b, b < n → ∀ c ∈ chainG lnk f b, c < n
  | 0, _, _, c, hc => by simp [chainG] at hc
  | f + 1, b, hb, c, hc => by
    simp only [chainG, List.mem_cons] at hc
    rcases hc with rfl | hc
    · exact hb
    · split at hc
      · cases hc
      · rename_i hl
        have := h b hb
        exact chainG_all h f (lnk b - 1) (by omega) c hc
theorem slotsG_length (l : List Nat) : (slotsG l).length = l.length * 7 := by
  unfold slotsG
  induction l with
  | nil => rfl
  | cons b l ih => simp [List.flatMap_cons, ih]; omega
theorem natsZ_length (l : List Nat) : (natsZ l).length = l.length := by simp [natsZ]
theorem idx_small {x : IdxM} (hok : IdxOk x) : 1 ≤ x.nb ∧ x.nb ≤ 1024 ∧ x.all ≤ 1088 ∧ x.nb ≤ x.all := by
  have h1 := mayN_le hok.may
  have h2 := hok.sp
  unfold IdxM.all
  omega
section
variable {S : SP} {w : World} {G : List HProp}
theorem isRow_ok {b : Nat} {r : RowM} {G' : List HProp} (h : Sat S w G) (hh : Has G (isRow b r) G') : r.ok := (isRow_open (h.pick hh)).1
theorem idx_lnk {x : IdxM} (hok : IdxOk x) (hr : x.row.ok) {b : Nat} (hb : b < x.all) : x.row.load ((b : Int) * 8 + 7) = (x.lnk b : Int) := by
  have hl := hok.len
  rw [RowM.load, if_pos (by omega), show ((b : Int) * 8 + 7).toNat = b * 8 + 7 by omega]
  have := RowM.getD_ok hr (b * 8 + 7)
  unfold IdxM.lnk
  omega
theorem idx_taken {x : IdxM} (hok : IdxOk x) (hr : x.tk.ok) : x.tk.load 0 = (x.taken : Int) := by
  have hl := hok.tlen
  rw [RowM.load, if_pos (by omega)]
  have := RowM.getD_ok hr 0
  unfold IdxM.taken
  simp only [Int.toNat_zero]
  omega

/-- An index without entries. -/
def idx0 (n s : Int) : IdxM := ⟨n.toNat, s.toNat, ⟨List.replicate ((n + s) * 8).toNat 0, 0, 0⟩, ⟨[0], 0, 0⟩⟩
theorem zeros_ok {n : Nat} {x : Int} (h : x ∈ List.replicate n (0 : Int)) : x = 0 := (List.mem_replicate.1 h).2
theorem index_New_spec (n s : Int) (h : Sat S w G) : Ret Try.prog F.index_New #[.int .i64 n, .int .i64 s] w (fun v w' => (¬ (mayN n ∧ 0 ≤ s ∧ s ≤ 64) ∧ v = .tuple #[.pointer none, .int .i64 1] ∧ Sat S w' G) ∨ ((mayN n ∧ 0 ≤ s ∧ s ≤ 64) ∧ ∃ b c d, v = .tuple #[.pointer (some ⟨b, 0, none⟩), .int .i64 0] ∧ Sat S w' (pt b (.cells (idxC (idx0 n s) c d) T.index_Index (0, 0)) :: isRow c (idx0 n s).row :: isRow d (idx0 n s).tk :: G))) := by
  refine ret_of is_index_New rfl ?_
  by_cases hn : mayN n
  · have hn1 := mayN_le hn
    by_cases hs : 0 ≤ s ∧ s ≤ 64
    · repeat' (first | (refine gC F.mix_May ?_; refine p_call rfl rfl (mix_May_spec n h) ?_; rintro _ w ⟨(⟨rfl, hb⟩ | ⟨rfl, hb⟩), h⟩) | contradiction | refine stP ?_ | (refine p_cmp rfl rfl rfl rfl (fun hc => ?_) (fun hc => ?_) <;> simp only [cmpProp] at hc) | fail)
      refine p_call rfl rfl (cell_New_spec _ h) ?_
      rintro _ w (⟨hx, _⟩ | ⟨_, _, c, rfl, h⟩)
      · exact absurd ⟨by omega, by omega⟩ hx
      repeat' (first | refine stPs ?_ | (refine p_cmp rfl rfl rfl rfl (fun hc => ?_) (fun hc => ?_) <;> simp only [cmpProp] at hc) | fail)
      refine p_call rfl rfl (cell_New_spec _ h) ?_
      rintro _ w (⟨hx, _⟩ | ⟨_, _, d, rfl, h⟩)
      · exact absurd ⟨by omega, by omega⟩ hx
      repeat' (first | refine stPs ?_ | (refine stC0_P17 ?_; rintro _ w ⟨(⟨rfl, hb⟩ | ⟨rfl, hb⟩), h⟩) | (refine stC1_P17 ?_; rintro _ w (⟨hq1, rfl, h⟩ | ⟨hq2, hq3, ⟨b, rfl, h⟩⟩)) | (refine stC2_P17 ?_; rintro _ w ⟨bx, rfl, h⟩) | (refine p_cmp rfl rfl rfl rfl (fun hc => ?_) (fun hc => ?_) <;> simp only [cmpProp] at hc) | fail)
      have e1 : ((n.toNat : Nat) : Int) = n := by omega
      have e2 : ((s.toNat : Nat) : Int) = s := by omega
      refine x_ret' is_index_New rfl (.inr ⟨⟨hn, hs⟩, bx, c, d, rfl, ?_⟩)
      unfold idxC idx0
      simp only [e1, e2]
      exact h.pm3
    · repeat' (first | contradiction | refine stP ?_ | (refine stC0_P17 ?_; rintro _ w ⟨(⟨rfl, hb⟩ | ⟨rfl, hb⟩), h⟩) | (refine stC1_P17 ?_; rintro _ w (⟨hq1, rfl, h⟩ | ⟨hq2, hq3, ⟨b, rfl, h⟩⟩)) | (refine stC2_P17 ?_; rintro _ w ⟨bx, rfl, h⟩) | (refine p_cmp rfl rfl rfl rfl (fun hc => ?_) (fun hc => ?_) <;> simp only [cmpProp] at hc) | fail)
      all_goals exact x_ret' is_index_New rfl (.inl ⟨fun hx => hs hx.2, rfl, h⟩)
  · repeat' (first | contradiction | refine stP ?_ | (refine stC0_P17 ?_; rintro _ w ⟨(⟨rfl, hb⟩ | ⟨rfl, hb⟩), h⟩) | (refine stC1_P17 ?_; rintro _ w (⟨hq1, rfl, h⟩ | ⟨hq2, hq3, ⟨b, rfl, h⟩⟩)) | (refine stC2_P17 ?_; rintro _ w ⟨bx, rfl, h⟩) | (refine p_cmp rfl rfl rfl rfl (fun hc => ?_) (fun hc => ?_) <;> simp only [cmpProp] at hc) | fail)
    all_goals exact x_ret' is_index_New rfl (.inl ⟨fun hx => hn hx.1, rfl, h⟩)

theorem idx0_ok {n s : Int} (hn : mayN n) (s0 : 0 ≤ s) (s1 : s ≤ 64) : IdxOk (idx0 n s) := by
  have h1 := mayN_le hn
  have hl : ∀ i : Nat, (List.replicate ((n + s) * 8).toNat (0 : Int)).getD i 0 = 0 := fun i => by
    rw [List.getD_eq_getElem?_getD, List.getElem?_replicate]
    split <;> rfl
  refine ⟨?_, ?_, ?_, fun b hb => ?_, rfl, ?_⟩
  · have : ((n.toNat : Nat) : Int) = n := by omega
    unfold idx0
    simp only [this]
    exact hn
  · unfold idx0; simp only; omega
  · unfold idx0 IdxM.all; simp only [List.length_replicate]; omega
  · unfold IdxM.lnk idx0
    simp only [hl]
    simp
  · unfold IdxM.taken idx0
    simp
theorem index_Index_all_spec {b c d : Nat} {x : IdxM} (hok : IdxOk x) (h : Sat S w (pt b (.cells (idxC x c d) T.index_Index (0, 0)) :: G)) : Ret Try.prog F.index_Index_all #[.pointer (some ⟨b, 0, none⟩)] w (fun v w' => v = .int .i64 x.all ∧ Sat S w' (pt b (.cells (idxC x c d) T.index_Index (0, 0)) :: G)) := by
  refine ret_of is_index_Index_all rfl ?_
  have hs := idx_small hok
  have he : ((x.all : Nat) : Int) = x.nb + x.sp := by unfold IdxM.all; omega
  rw [he]
  repeat' (first | refine stPs ?_ | (refine x_drawn rfl ?_; have h := h.drew) | refine x_drawn rfl ?_ | fail)
  exact x_ret' is_index_Index_all rfl ⟨rfl, h⟩

theorem index_Index_link_spec {b c d : Nat} {x : IdxM} (hok : IdxOk x) (k : Nat) (hk : k < x.all) (h : Sat S w (pt b (.cells (idxC x c d) T.index_Index (0, 0)) :: isRow c x.row :: G)) : Ret Try.prog F.index_Index_link #[.pointer (some ⟨b, 0, none⟩), .int .i64 k] w (fun v w' => v = .tuple #[.int .i64 ((x.lnk k : Int) - 1), .bool (decide (x.lnk k ≠ 0))] ∧ Sat S w' (pt b (.cells (idxC x c d) T.index_Index (0, 0)) :: isRow c x.row :: G)) := by
  refine ret_of is_index_Index_link rfl ?_
  have hs := idx_small hok
  have hl := hok.link k hk
  have hr := idx_lnk hok (isRow_ok h (by repeat first | exact .here | apply Has.there)) hk
  repeat' (first | refine stPs ?_ | (refine stC3_P17 ?_; rintro _ w ⟨rfl, h⟩) | (refine p_cmp rfl rfl rfl rfl (fun hc => ?_) (fun hc => ?_) <;> simp only [cmpProp] at hc) | fail)
  all_goals refine x_ret' is_index_Index_link rfl ⟨?_, h.pm2⟩
  · show Value.tuple #[_, _] = _
    rw [hr, decide_eq_true (by omega)]
  · show Value.tuple #[_, _] = _
    rw [hr, decide_eq_false (by omega)]

set_option maxHeartbeats 3000000 in
theorem index_Index_Chain_spec {b c d : Nat} {x : IdxM} (k : Int) (hok : IdxOk x) (h : Sat S w (pt b (.cells (idxC x c d) T.index_Index (0, 0)) :: isRow c x.row :: G)) : Ret Try.prog F.index_Index_Chain #[.pointer (some ⟨b, 0, none⟩), .int .i64 k] w (fun v w' => Sat S w' (ownS T.int 1 v (ints .i64 (natsZ (x.chainZ k))) :: pt b (.cells (idxC x c d) T.index_Index (0, 0)) :: isRow c x.row :: G)) := by
  refine ret_of is_index_Index_Chain rfl ?_
  have hs := idx_small hok
  by_cases hq : 0 ≤ k ∧ k < x.all
  · have hch : x.chainZ k = [] ++ (if true = true then chainG x.lnk (x.all + 1) k.toNat else []) := by
      unfold IdxM.chainZ IdxM.chain
      simp [hq]
    repeat' (first | refine stPs ?_ | (refine stC3_P17 ?_; rintro _ w ⟨rfl, h⟩) | (refine p_cmp rfl rfl rfl rfl (fun hc => ?_) (fun hc => ?_) <;> simp only [cmpProp] at hc) | fail)
    have h := ownS_none (E := T.int) (n := 1) h
    refine x_keep [0, 1, 5, 6] rfl ?_
    refine x_loop_inv (fun lm le w => ∃ (f : Nat), ∃ (bk : Int), ∃ (ok : Bool), ∃ (v : Value), ∃ (acc : List Nat), lm = f + f ∧ acc.length + f = x.all + 1 ∧ (ok = true → 0 ≤ bk ∧ bk < x.all) ∧ x.chainZ k = acc ++ (if ok = true then chainG x.lnk f bk.toNat else []) ∧ le = [(0, .pointer (some ⟨b, 0, none⟩)), (1, .int .i64 bk), (5, v), (6, .bool ok)] ∧ Sat S w (ownS T.int 1 v (ints .i64 (natsZ acc)) :: pt b (.cells (idxC x c d) T.index_Index (0, 0)) :: isRow c x.row :: G)) ((x.all + 1) + (x.all + 1)) ⟨x.all + 1, k, true, _, [], rfl, by simp, fun _ => hq, hch, rfl, h.pm3⟩ ?_
    clear h
    rintro lm le w ⟨f, bk, ok, v, acc, rfl, hi0, hi1, hi2, rfl, h⟩ ih
    have hsl := ownS_slice h .here
    obtain ⟨va, vl, vc, rfl, hvl, _⟩ := hsl
    rw [ints_length, natsZ_length, Nat.mul_one] at hvl
    cases ok
    · repeat' (first | refine stPs ?_ | (refine stC3_P17 ?_; rintro _ w ⟨rfl, h⟩) | (refine p_cmp rfl rfl rfl rfl (fun hc => ?_) (fun hc => ?_) <;> simp only [cmpProp] at hc) | fail)
      refine x_ret' is_index_Index_Chain rfl ?_
      rw [hi2]
      simp
      exact h
    · obtain ⟨g0, g1⟩ := hi1 rfl
      obtain ⟨kb, rfl⟩ := Int.eq_ofNat_of_zero_le g0
      rcases f with _ | f
      · repeat' (first | refine stPs ?_ | (refine stC3_P17 ?_; rintro _ w ⟨rfl, h⟩) | (refine p_cmp rfl rfl rfl rfl (fun hc => ?_) (fun hc => ?_) <;> simp only [cmpProp] at hc) | fail)
        refine x_ret' is_index_Index_Chain rfl ?_
        rw [hi2]
        simp [chainG]
        exact h.pm3
      · repeat' (first | (refine p_lit [.int .i64 (kb : Int)] rfl rfl rfl rfl rfl rfl h (fun v w h => ?_)) | (refine p_app rfl rfl rfl rfl (by decide) (h.pick (.there (by repeat first | exact .here | apply Has.there))) (ownS_rd h .here) (by simp [Value.oneCell']) (by rw [ints_length, natsZ_length]; simp; omega) (by rw [ints_length, natsZ_length]; simp; omega) (fun v w h => ?_)) | refine stP ?_ | (refine stC3_P17 ?_; rintro _ w ⟨rfl, h⟩) | (refine p_cmp rfl rfl rfl rfl (fun hc => ?_) (fun hc => ?_) <;> simp only [cmpProp] at hc) | fail)
        have e : ints .i64 (natsZ acc) ++ [.int .i64 (kb : Int)] = ints .i64 (natsZ (acc ++ [kb])) := by simp [ints, natsZ]
        rw [e] at h
        have hl := hok.link kb (by omega)
        refine x_keep [0, 1, 5, 6] rfl (ih _ _ _ (by omega) ⟨f, _, _, _, acc ++ [kb], rfl, by simp; omega, ?_, ?_, rfl, h.pm3⟩)
        · intro hx
          have := of_decide_eq_true hx
          omega
        · rw [hi2]
          have e2 : ((x.lnk kb : Int) - 1).toNat = x.lnk kb - 1 := by omega
          rw [e2]
          simp only [chainG, Int.toNat_natCast]
          by_cases hz : x.lnk kb = 0
          · simp [hz]
          · simp [hz]
  · have hch : x.chainZ k = [] := by
      unfold IdxM.chainZ
      rw [if_neg hq]
    rw [hch]
    repeat' (first | refine stPs ?_ | (refine stC3_P17 ?_; rintro _ w ⟨rfl, h⟩) | (refine p_cmp rfl rfl rfl rfl (fun hc => ?_) (fun hc => ?_) <;> simp only [cmpProp] at hc) | fail)
    all_goals
      refine x_loop ?_
      repeat' (first | refine stPs ?_ | (refine stC3_P17 ?_; rintro _ w ⟨rfl, h⟩) | (refine p_cmp rfl rfl rfl rfl (fun hc => ?_) (fun hc => ?_) <;> simp only [cmpProp] at hc) | fail)
      exact x_ret' is_index_Index_Chain rfl (ownS_none h)

set_option maxHeartbeats 3000000 in
theorem index_slots_spec {v : Value} (l : List Nat) (hl : l.length ≤ 2000) (hb : ∀ b ∈ l, b < 2000) (h : Sat S w (ownS T.int 1 v (ints .i64 (natsZ l)) :: G)) : Ret Try.prog F.index_slots #[v] w (fun u w' => Sat S w' (ownS T.int 1 u (ints .i64 (natsZ (slotsG l))) :: ownS T.int 1 v (ints .i64 (natsZ l)) :: G)) := by
  obtain ⟨a, len, cap, rfl, hlen, _⟩ := ownS_slice h .here
  rw [ints_length, natsZ_length, Nat.mul_one] at hlen
  refine ret_of is_index_slots rfl ?_
  repeat' (first | refine stPs ?_ | (refine p_cmp rfl rfl rfl rfl (fun hc => ?_) (fun hc => ?_) <;> simp only [cmpProp] at hc) | fail)
  have h := ownS_none (E := T.int) (n := 1) h
  refine x_keep [3, 7, 8, 9] rfl ?_
  refine x_loop_inv (fun lm le w => ∃ (i : Nat), ∃ (u : Value), lm = len - i ∧ i ≤ len ∧ le = [(3, u), (7, .slice a len cap), (8, .int .i64 len), (9, .int .i64 i)] ∧ Sat S w (ownS T.int 1 u (ints .i64 (natsZ (slotsG (l.take i)))) :: ownS T.int 1 (.slice a len cap) (ints .i64 (natsZ l)) :: G)) (len) ⟨0, _, rfl, by omega, rfl, h⟩ ?_
  clear h
  rintro lm le w ⟨i, u, rfl, hi0, rfl, h⟩ ih
  by_cases hi : i < len
  · obtain ⟨b, hbi⟩ := has_elem (show i < l.length by omega)
    have hb2 := hb b (List.mem_of_getElem? hbi)
    obtain ⟨p, rfl⟩ := ownS_addr h (.there .here) (by omega)
    have hg : (natsZ l).getD i 0 = b := by unfold natsZ; rw [List.getD_eq_getElem?_getD, List.getElem?_map, hbi]; rfl
    repeat' (first | (refine gL ?_; refine p_val rfl (g_ldI (i := i) rfl (ownS_rd h (.there .here)) (by omega) (by rw [natsZ_length]; omega)) ?_; rw [hg]) | refine stP ?_ | (refine p_cmp rfl rfl rfl rfl (fun hc => ?_) (fun hc => ?_) <;> simp only [cmpProp] at hc) | fail)
    refine x_keep [3, 5, 7, 8, 9, 13] rfl ?_
    refine x_loop_inv (fun lm le w => ∃ (j : Nat), ∃ (u : Value), lm = 7 - j ∧ j ≤ 7 ∧ le = [(3, u), (5, .int .i64 b), (7, .slice (some ⟨p, 0, none⟩) len cap), (8, .int .i64 len), (9, .int .i64 i), (13, .int .i64 j)] ∧ Sat S w (ownS T.int 1 u (ints .i64 (natsZ (slotsG (l.take i) ++ (List.range j).map (fun k => b * 8 + k)))) :: ownS T.int 1 (.slice (some ⟨p, 0, none⟩) len cap) (ints .i64 (natsZ l)) :: G)) (7) ⟨0, _, rfl, by omega, rfl, by simpa using h⟩ ?_
    clear h
    rintro lm le w ⟨j, u, rfl, hi0, rfl, h⟩ ih2
    have hln : (slotsG (l.take i) ++ (List.range j).map (fun k => b * 8 + k)).length ≤ 20000 := by
      rw [List.length_append, slotsG_length, List.length_take, List.length_map, List.length_range]
      omega
    by_cases hj : j < 7
    · repeat' (first | (refine p_lit [.int .i64 ((b : Int) * 8 + j)] rfl rfl rfl rfl rfl rfl h (fun v w h => ?_)) | (refine p_app rfl rfl rfl rfl (by decide) (h.pick (.there .here)) (ownS_rd h .here) (by simp [Value.oneCell']) (by rw [ints_length, natsZ_length]; simp at hln ⊢; omega) (by rw [ints_length, natsZ_length]; simp at hln ⊢; omega) (fun v w h => ?_)) | refine stP ?_ | (refine p_cmp rfl rfl rfl rfl (fun hc => ?_) (fun hc => ?_) <;> simp only [cmpProp] at hc) | fail)
      have e : ints .i64 (natsZ (slotsG (l.take i) ++ (List.range j).map (fun k => b * 8 + k))) ++ [.int .i64 ((b : Int) * 8 + j)] = ints .i64 (natsZ (slotsG (l.take i) ++ (List.range (j + 1)).map (fun k => b * 8 + k))) := by simp [ints, natsZ, List.range_succ]
      rw [e] at h
      exact x_keep [3, 5, 7, 8, 9, 13] rfl (ih2 _ _ _ (by omega) ⟨j + 1, _, rfl, by omega, rfl, h.pm2⟩)
    · obtain rfl : j = 7 := by omega
      repeat' (first | refine stPs ?_ | (refine p_cmp rfl rfl rfl rfl (fun hc => ?_) (fun hc => ?_) <;> simp only [cmpProp] at hc) | fail)
      have e : slotsG (l.take i) ++ (List.range 7).map (fun k => b * 8 + k) = slotsG (l.take (i + 1)) := by rw [take_next hbi]; unfold slotsG; simp [List.flatMap_append]
      rw [e] at h
      exact x_keep [3, 7, 8, 9] rfl (ih _ _ _ (by omega) ⟨i + 1, _, rfl, by omega, rfl, h⟩)
  · repeat' (first | refine stPs ?_ | (refine p_cmp rfl rfl rfl rfl (fun hc => ?_) (fun hc => ?_) <;> simp only [cmpProp] at hc) | fail)
    rw [List.take_of_length_le (by omega)] at h
    exact x_ret' is_index_slots rfl h

/-- The first that is so; -1: none is. -/
def findZ {α : Type} (p : α → Bool) (l : List α) : Int := match l.findIdx? p with
  | some i => i
  | none => -1
theorem findZ_step {α : Type} {p : α → Bool} {l : List α} {i : Nat} {x : α} (hx : l[i]? = some x) (hn : ∀ j y, j < i → l[j]? = some y → p y = false) (hp : p x = true) : findZ p l = i := by
  have hi : i < l.length := (List.getElem?_eq_some_iff.1 hx).1
  have : l.findIdx? p = some i := by
    rw [List.findIdx?_eq_some_iff_getElem]
    refine ⟨hi, by rw [(List.getElem?_eq_some_iff.1 hx).2]; exact hp, fun j hj => ?_⟩
    simpa using hn j _ hj (List.getElem?_eq_getElem (by omega))
  unfold findZ
  rw [this]
theorem findZ_none {α : Type} {p : α → Bool} {l : List α} (hn : ∀ j y, j < l.length → l[j]? = some y → p y = false) : findZ p l = -1 := by
  have : l.findIdx? p = none := by
    rw [List.findIdx?_eq_none_iff]
    intro x hx
    obtain ⟨j, hj⟩ := List.getElem?_of_mem hx
    exact hn j x (List.getElem?_eq_some_iff.1 hj).1 hj
  unfold findZ
  rw [this]
theorem slices_IndexFunc_int_int_spec {v : Value} {f : FuncId} {fs cs : Array Value} (l : List Int) (p : Int → Bool) (hbd : bodyOk Try.prog f = true) (hl : l.length ≤ 1000000) (hp : ∀ x ∈ l, ∀ w, Sat S w (ownS T.int 1 v (ints .i64 l) :: G) → Ret Try.prog f (fs ++ #[.int .i64 x] ++ cs) w (fun u w' => u = .bool (p x) ∧ Sat S w' (ownS T.int 1 v (ints .i64 l) :: G))) (h : Sat S w (ownS T.int 1 v (ints .i64 l) :: G)) :
    Ret Try.prog F.slices_IndexFunc_int_int #[v, .func (.func f) fs cs] w (fun u w' => u = .int .i64 (findZ p l) ∧ Sat S w' (ownS T.int 1 v (ints .i64 l) :: G)) := by
  obtain ⟨a, len, cap, rfl, hlen, _⟩ := ownS_slice h .here
  rw [ints_length, Nat.mul_one] at hlen
  refine ret_of is_slices_IndexFunc_int_int rfl ?_
  repeat' (first | refine stPs ?_ | (refine p_cmp rfl rfl rfl rfl (fun hc => ?_) (fun hc => ?_) <;> simp only [cmpProp] at hc) | fail)
  refine x_keep [0, 1, 7, 8] rfl ?_
  refine x_loop_inv (fun lm le w => ∃ (i : Nat), lm = len - i ∧ i ≤ len ∧ (∀ j y, j < i → l[j]? = some y → p y = false) ∧ le = [(0, .slice a len cap), (1, .func (.func f) fs cs), (7, .int .i64 len), (8, .int .i64 i)] ∧ Sat S w (ownS T.int 1 (.slice a len cap) (ints .i64 l) :: G)) (len) ⟨0, rfl, by omega, fun j y hj => by omega, rfl, h⟩ ?_
  clear h
  rintro lm le w ⟨i, rfl, hi0, hi1, rfl, h⟩ ih
  by_cases hi : i < len
  · obtain ⟨x, hx⟩ := has_elem (show i < l.length by omega)
    obtain ⟨pb, rfl⟩ := ownS_addr h .here (by omega)
    have hg : l.getD i 0 = x := by rw [List.getD_eq_getElem?_getD, hx]; rfl
    repeat' (first | (refine gL ?_; refine p_val rfl (g_ldI (i := i) rfl (ownS_rd h .here) (by omega) (by omega)) ?_; rw [hg]) | refine stP ?_ | (refine p_cmp rfl rfl rfl rfl (fun hc => ?_) (fun hc => ?_) <;> simp only [cmpProp] at hc) | fail)
    refine p_cv rfl rfl hbd rfl (hp x (List.mem_of_getElem? hx) _ h) ?_
    rintro _ w ⟨rfl, h⟩
    cases hpx : p x
    · repeat' (first | refine stPs ?_ | (refine p_cmp rfl rfl rfl rfl (fun hc => ?_) (fun hc => ?_) <;> simp only [cmpProp] at hc) | fail)
      exact x_keep [0, 1, 7, 8] rfl (ih _ _ _ (by omega) ⟨i + 1, rfl, by omega, fun j y hj hy => by
        rcases Nat.lt_or_ge j i with hji | hji
        · exact hi1 j y hji hy
        · obtain rfl : j = i := by omega
          rw [hx] at hy
          cases hy
          exact hpx, rfl, h⟩)
    · repeat' (first | refine stPs ?_ | (refine p_cmp rfl rfl rfl rfl (fun hc => ?_) (fun hc => ?_) <;> simp only [cmpProp] at hc) | fail)
      exact x_ret' is_slices_IndexFunc_int_int rfl ⟨by rw [findZ_step hx hi1 hpx]; rfl, h⟩
  · repeat' (first | refine stPs ?_ | (refine p_cmp rfl rfl rfl rfl (fun hc => ?_) (fun hc => ?_) <;> simp only [cmpProp] at hc) | fail)
    exact x_ret' is_slices_IndexFunc_int_int rfl ⟨by rw [findZ_none (fun j y hj => hi1 j y (by omega))]; rfl, h⟩

theorem slices_Index_int_int_spec {v : Value} (l : List Int) (y : Int) (hl : l.length ≤ 1000000) (h : Sat S w (ownS T.int 1 v (ints .i64 l) :: G)) :
    Ret Try.prog F.slices_Index_int_int #[v, .int .i64 y] w (fun u w' => u = .int .i64 (findZ (fun x => decide (x = y)) l) ∧ Sat S w' (ownS T.int 1 v (ints .i64 l) :: G)) := by
  obtain ⟨a, len, cap, rfl, hlen, _⟩ := ownS_slice h .here
  rw [ints_length, Nat.mul_one] at hlen
  refine ret_of is_slices_Index_int_int rfl ?_
  repeat' (first | refine stPs ?_ | (refine p_cmp rfl rfl rfl rfl (fun hc => ?_) (fun hc => ?_) <;> simp only [cmpProp] at hc) | fail)
  refine x_keep [0, 1, 7, 8] rfl ?_
  refine x_loop_inv (fun lm le w => ∃ (i : Nat), lm = len - i ∧ i ≤ len ∧ (∀ j z, j < i → l[j]? = some z → decide (z = y) = false) ∧ le = [(0, .slice a len cap), (1, .int .i64 y), (7, .int .i64 len), (8, .int .i64 i)] ∧ Sat S w (ownS T.int 1 (.slice a len cap) (ints .i64 l) :: G)) (len) ⟨0, rfl, by omega, fun j y hj => by omega, rfl, h⟩ ?_
  clear h
  rintro lm le w ⟨i, rfl, hi0, hi1, rfl, h⟩ ih
  by_cases hi : i < len
  · obtain ⟨x, hx⟩ := has_elem (show i < l.length by omega)
    obtain ⟨pb, rfl⟩ := ownS_addr h .here (by omega)
    have hg : l.getD i 0 = x := by rw [List.getD_eq_getElem?_getD, hx]; rfl
    repeat' (first | (refine gL ?_; refine p_val rfl (g_ldI (i := i) rfl (ownS_rd h .here) (by omega) (by omega)) ?_; rw [hg]) | refine stP ?_ | (refine p_cmp rfl rfl rfl rfl (fun hc => ?_) (fun hc => ?_) <;> simp only [cmpProp] at hc) | fail)
    · exact x_ret' is_slices_Index_int_int rfl ⟨by rw [findZ_step hx hi1 (decide_eq_true (by omega))]; rfl, h⟩
    · exact x_keep [0, 1, 7, 8] rfl (ih _ _ _ (by omega) ⟨i + 1, rfl, by omega, fun j z hj hz => by
        rcases Nat.lt_or_ge j i with hji | hji
        · exact hi1 j z hji hz
        · obtain rfl : j = i := by omega
          rw [hx] at hz
          cases hz
          exact decide_eq_false (by omega), rfl, h⟩)
  · repeat' (first | refine stPs ?_ | (refine p_cmp rfl rfl rfl rfl (fun hc => ?_) (fun hc => ?_) <;> simp only [cmpProp] at hc) | fail)
    exact x_ret' is_slices_Index_int_int rfl ⟨by rw [findZ_none (fun j y hj => hi1 j y (by omega))]; rfl, h⟩

theorem findZ_mem {l : List Int} {y : Int} : 0 ≤ findZ (fun x => decide (x = y)) l ↔ y ∈ l := by
  unfold findZ
  cases hf : l.findIdx? (fun x => decide (x = y)) with
  | none =>
    rw [List.findIdx?_eq_none_iff] at hf
    simp only [Int.reduceNeg]
    constructor
    · intro h; omega
    · intro h; have := hf y h; simp at this
  | some i =>
    rw [List.findIdx?_eq_some_iff_getElem] at hf
    obtain ⟨hi, hp, _⟩ := hf
    simp only [decide_eq_true_eq] at hp
    constructor
    · intro _; rw [← hp]; exact List.getElem_mem hi
    · intro _; show (0 : Int) ≤ (i : Int); omega
theorem slices_Contains_int_int_spec {v : Value} (l : List Int) (y : Int) (hl : l.length ≤ 1000000) (h : Sat S w (ownS T.int 1 v (ints .i64 l) :: G)) :
    Ret Try.prog F.slices_Contains_int_int #[v, .int .i64 y] w (fun u w' => BoolIs u (y ∈ l) ∧ Sat S w' (ownS T.int 1 v (ints .i64 l) :: G)) := by
  refine ret_of is_slices_Contains_int_int rfl ?_
  have hm := findZ_mem (l := l) (y := y)
  repeat' (first | refine stPs ?_ | (refine stC3_P17 ?_; rintro _ w ⟨rfl, h⟩) | (refine p_cmp rfl rfl rfl rfl (fun hc => ?_) (fun hc => ?_) <;> simp only [cmpProp] at hc) | fail)
  · exact x_ret' is_slices_Contains_int_int rfl ⟨.t (hm.1 (by omega)), h⟩
  · exact x_ret' is_slices_Contains_int_int rfl ⟨.f (fun hx => by have := hm.2 hx; omega), h⟩
end
end Go.Proofs.Ytmlkeackapflhaa
