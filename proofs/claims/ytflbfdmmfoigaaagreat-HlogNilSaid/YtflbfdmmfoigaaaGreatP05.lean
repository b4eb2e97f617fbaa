/- Layer 5 (cell): what each function computes. -/
import Derived.Test.YtflbfdmmfoigaaaGreatHxS
import Derived.Test.YtflbfdmmfoigaaaGreatIr0
import Derived.Test.YtflbfdmmfoigaaaGreatIr1
namespace Go.Proofs.YtflbfdmmfoigaaaGreat
open Go Go.HX
attribute [local irreducible] Ret XRun XOps XDr XOne Does Gives
set_option maxRecDepth 4000
set_option maxHeartbeats 1000000

/-- A row: its words, the tries that won, and that lost. -/
structure RowM where
  ws : List Int
  won : Int
  lost : Int
def RowM.ok (r : RowM) : Prop := (1 ≤ r.ws.length ∧ r.ws.length ≤ 65536 ∧ ∀ x ∈ r.ws, 0 ≤ x ∧ x ≤ 18446744073709551615) ∧ (-9223372036854775808 ≤ r.won ∧ r.won ≤ 9223372036854775807) ∧ -9223372036854775808 ≤ r.lost ∧ r.lost ≤ 9223372036854775807
def isRow (b : Nat) (r : RowM) : HProp := hex fun v => hpure r.ok (sep (pt b (.cells #[v, .int .i64 r.won, .int .i64 r.lost] T.cell_Row (0, 0))) (ownS T.atomic_Uint64 1 v (ints .u64 r.ws)))
def RowM.load (r : RowM) (i : Int) : Int := if 0 ≤ i ∧ i < r.ws.length then r.ws.getD i.toNat 0 else 0
def RowM.may (r : RowM) (i : Int) : Int := if 0 ≤ i ∧ i < r.ws.length then 0 else 1
def RowM.store (r : RowM) (i x : Int) : RowM := if 0 ≤ i ∧ i < r.ws.length then { r with ws := r.ws.set i.toNat x } else r
theorem RowM.getD_ok {r : RowM} (h : r.ok) (i : Nat) : 0 ≤ r.ws.getD i 0 ∧ r.ws.getD i 0 ≤ 18446744073709551615 := by
  rw [List.getD_eq_getElem?_getD]
  cases hg : r.ws[i]? with
  | none => simp
  | some b => exact h.1.2.2 b (List.mem_of_getElem? hg)
theorem RowM.load_ok {r : RowM} (h : r.ok) (i : Int) : 0 ≤ r.load i ∧ r.load i ≤ 18446744073709551615 := by
  unfold RowM.load
  split
  · exact r.getD_ok h _
  · omega
theorem RowM.set_ok {r : RowM} (h : r.ok) (i : Nat) {x : Int} (h0 : 0 ≤ x) (h1 : x ≤ 18446744073709551615) : 1 ≤ (r.ws.set i x).length ∧ (r.ws.set i x).length ≤ 65536 ∧ ∀ y ∈ r.ws.set i x, 0 ≤ y ∧ y ≤ 18446744073709551615 := by
  refine ⟨by rw [List.length_set]; exact h.1.1, by rw [List.length_set]; exact h.1.2.1, fun y hy => ?_⟩
  rcases List.mem_or_eq_of_mem_set hy with hy | rfl
  · exact h.1.2.2 y hy
  · exact ⟨h0, h1⟩
theorem RowM.store_ok {r : RowM} (h : r.ok) (i : Int) {x : Int} (h0 : 0 ≤ x) (h1 : x ≤ 18446744073709551615) : (r.store i x).ok := by
  unfold RowM.store
  split
  · exact ⟨r.set_ok h _ h0 h1, h.2⟩
  · exact h
section
variable {S : SP} {w : World} {G : List HProp}

theorem isRow_open {b : Nat} {r : RowM} (h : Sat S w (isRow b r :: G)) : r.ok ∧ ∃ c cap, Sat S w (pt b (.cells #[.slice (some ⟨c, 0, none⟩) r.ws.length cap, .int .i64 r.won, .int .i64 r.lost] T.cell_Row (0, 0)) :: ownS T.atomic_Uint64 1 (.slice (some ⟨c, 0, none⟩) r.ws.length cap) (ints .u64 r.ws) :: G) := by
  unfold isRow at h
  rw [Sat_ex] at h
  obtain ⟨v, h⟩ := h
  rw [Sat_pure, Sat_sep] at h
  obtain ⟨hok, h⟩ := h
  obtain ⟨c, cap, rfl⟩ := ownS_shape r.ws.length h (.there .here) (by rw [ints_length]; omega) hok.1.1
  exact ⟨hok, c, cap, h⟩
theorem isRow_shut {b : Nat} {r : RowM} {v : Value} (h : Sat S w (pt b (.cells #[v, .int .i64 r.won, .int .i64 r.lost] T.cell_Row (0, 0)) :: ownS T.atomic_Uint64 1 v (ints .u64 r.ws) :: G)) (hok : r.ok) : Sat S w (isRow b r :: G) := by
  unfold isRow
  rw [Sat_ex]
  exact ⟨v, by rw [Sat_pure, Sat_sep]; exact ⟨hok, h⟩⟩

theorem atomic_Uint64_Load_spec {a : Addr} {x : Int} (hc : ∀ w, Sat S w G → w.cell? a = some (.int .u64 x)) (ha : ∃ b o, a = ⟨b, o, none⟩) (h : Sat S w G) :
    Ret Tryz.prog F.atomic_Uint64_Load #[.pointer (some a)] w (fun v w' => v = .int .u64 x ∧ Sat S w' G) := by
  obtain ⟨b, o, rfl⟩ := ha
  refine ret_of is_atomic_Uint64_Load rfl ?_
  repeat' (first | refine p_val rfl (g_aload ext_atomic_LoadUint64 rfl (hc _ h)) ?_ | refine stP ?_ | fail)
  exact x_ret' is_atomic_Uint64_Load rfl ⟨rfl, h⟩


theorem atomic_Uint64_Store_spec {b o : Nat} {c : Array Value} {E : TypeId} (y : Int) (h : Sat S w (pt b (.cells c E (0, 0)) :: G)) (ho : o < c.size) :
    Ret Tryz.prog F.atomic_Uint64_Store #[.pointer (some ⟨b, o, none⟩), .int .u64 y] w (fun _ w' => Sat S w' (pt b (.cells (c.setIfInBounds o (.int .u64 y)) E (0, 0)) :: G)) := by
  refine ret_of is_atomic_Uint64_Store rfl ?_
  repeat' (first | (refine p_do rfl (d_astore ext_atomic_StoreUint64 rfl h (by omega)) ?_; rintro _ w ⟨rfl, h⟩) | refine stP ?_ | fail)
  exact x_end' is_atomic_Uint64_Store rfl h

theorem atomic_Uint64_CompareAndSwap_spec {b o : Nat} {c : Array Value} {E : TypeId} (cur old new : Int) (h : Sat S w (pt b (.cells c E (0, 0)) :: G)) (hc : c[o]? = some (.int .u64 cur)) :
    Ret Tryz.prog F.atomic_Uint64_CompareAndSwap #[.pointer (some ⟨b, o, none⟩), .int .u64 old, .int .u64 new] w (fun v w' => (v = .bool true ∧ cur = old ∧ Sat S w' (pt b (.cells (c.setIfInBounds o (.int .u64 new)) E (0, 0)) :: G)) ∨ (v = .bool false ∧ cur ≠ old ∧ Sat S w' (pt b (.cells c E (0, 0)) :: G))) := by
  refine ret_of is_atomic_Uint64_CompareAndSwap rfl ?_
  repeat' (first | (refine p_do rfl (d_acas ext_atomic_CompareAndSwapUint64 rfl h hc) ?_; rintro _ w (⟨rfl, he, h⟩ | ⟨rfl, he, h⟩)) | refine stP ?_ | fail)
  · exact x_ret' is_atomic_Uint64_CompareAndSwap rfl (.inl ⟨rfl, he, h⟩)
  · exact x_ret' is_atomic_Uint64_CompareAndSwap rfl (.inr ⟨rfl, he, h⟩)

theorem atomic_Uint64_Add_spec {b o : Nat} {c : Array Value} {E : TypeId} (cur y : Int) (h : Sat S w (pt b (.cells c E (0, 0)) :: G)) (hc : c[o]? = some (.int .u64 cur)) :
    Ret Tryz.prog F.atomic_Uint64_Add #[.pointer (some ⟨b, o, none⟩), .int .u64 y] w (fun v w' => v = .int .u64 (IntKind.u64.wrap (cur + y)) ∧ Sat S w' (pt b (.cells (c.setIfInBounds o (.int .u64 (IntKind.u64.wrap (cur + y)))) E (0, 0)) :: G)) := by
  refine ret_of is_atomic_Uint64_Add rfl ?_
  repeat' (first | (refine p_do rfl (d_aadd ext_atomic_AddUint64 rfl h hc) ?_; rintro _ w ⟨rfl, h⟩) | refine stP ?_ | fail)
  exact x_ret' is_atomic_Uint64_Add rfl ⟨rfl, h⟩

theorem atomic_Int64_Add_spec {b o : Nat} {c : Array Value} {E : TypeId} (cur y : Int) (h : Sat S w (pt b (.cells c E (0, 0)) :: G)) (hc : c[o]? = some (.int .i64 cur)) :
    Ret Tryz.prog F.atomic_Int64_Add #[.pointer (some ⟨b, o, none⟩), .int .i64 y] w (fun v w' => v = .int .i64 (IntKind.i64.wrap (cur + y)) ∧ Sat S w' (pt b (.cells (c.setIfInBounds o (.int .i64 (IntKind.i64.wrap (cur + y)))) E (0, 0)) :: G)) := by
  refine ret_of is_atomic_Int64_Add rfl ?_
  repeat' (first | (refine p_do rfl (d_aadd ext_atomic_AddInt64 rfl h hc) ?_; rintro _ w ⟨rfl, h⟩) | refine stP ?_ | fail)
  exact x_ret' is_atomic_Int64_Add rfl ⟨rfl, h⟩

theorem cell_New_spec (n : Int) (h : Sat S w G) :
    Ret Tryz.prog F.cell_New #[.int .i64 n] w (fun v w' => (¬ (1 ≤ n ∧ n ≤ 65536) ∧ v = .tuple #[.pointer none, .int .i64 1] ∧ Sat S w' G) ∨
      (1 ≤ n ∧ n ≤ 65536 ∧ ∃ b, v = .tuple #[.pointer (some ⟨b, 0, none⟩), .int .i64 0] ∧ Sat S w' (isRow b ⟨List.replicate n.toNat 0, 0, 0⟩ :: G))) := by
  refine ret_of is_cell_New rfl ?_
  by_cases hn : 1 ≤ n ∧ n ≤ 65536
  · obtain ⟨k, rfl⟩ := Int.eq_ofNat_of_zero_le (show 0 ≤ n by omega)
    repeat' (first | refine stPs ?_ | (refine p_cmp rfl rfl rfl rfl (fun hc => ?_) (fun hc => ?_) <;> simp only [cmpProp] at hc) | fail)
    refine p_mkI rfl rfl (by omega) (by omega) h (fun v w h => ?_)
    obtain ⟨a, l, c, rfl, _⟩ := ownS_slice h .here
    repeat' (first | refine stPs ?_ | (refine p_cmp rfl rfl rfl rfl (fun hc => ?_) (fun hc => ?_) <;> simp only [cmpProp] at hc) | fail)
    refine p_do rfl (d_box rfl h) ?_
    rintro _ w ⟨b, rfl, h⟩
    repeat' (first | refine stPs ?_ | (refine p_cmp rfl rfl rfl rfl (fun hc => ?_) (fun hc => ?_) <;> simp only [cmpProp] at hc) | fail)
    refine x_ret' is_cell_New rfl (.inr ⟨hn.1, hn.2, b, rfl, isRow_shut h ?_⟩)
    refine ⟨⟨by simp; omega, by simp; omega, fun x hx => ?_⟩, by simp, by simp⟩
    have := List.eq_of_mem_replicate hx
    omega
  · repeat' (first | refine stPs ?_ | (refine p_cmp rfl rfl rfl rfl (fun hc => ?_) (fun hc => ?_) <;> simp only [cmpProp] at hc) | fail)
    all_goals exact x_ret' is_cell_New rfl (.inl ⟨hn, rfl, h⟩)

theorem cell_Row_Len_spec {b : Nat} {r : RowM} (h : Sat S w (isRow b r :: G)) :
    Ret Tryz.prog F.cell_Row_Len #[.pointer (some ⟨b, 0, none⟩)] w (fun v w' => v = .int .i64 r.ws.length ∧ Sat S w' (isRow b r :: G)) := by
  refine ret_of is_cell_Row_Len rfl ?_
  obtain ⟨hok, c, cap, h⟩ := isRow_open h
  repeat' (first | refine stPs ?_ | fail)
  exact x_ret' is_cell_Row_Len rfl ⟨rfl, isRow_shut h hok⟩

theorem cell_Row_there_spec {b : Nat} {r : RowM} (i : Int) (h : Sat S w (isRow b r :: G)) :
    Ret Tryz.prog F.cell_Row_there #[.pointer (some ⟨b, 0, none⟩), .int .i64 i] w (fun v w' => BoolIs v (0 ≤ i ∧ i < r.ws.length) ∧ Sat S w' (isRow b r :: G)) := by
  refine ret_of is_cell_Row_there rfl ?_
  repeat' (first | (refine gC F.cell_Row_Len ?_; refine p_call rfl rfl (cell_Row_Len_spec h) ?_; rintro _ w ⟨rfl, h⟩) | refine stP ?_ | (refine p_cmp rfl rfl rfl rfl (fun hc => ?_) (fun hc => ?_) <;> simp only [cmpProp] at hc) | fail)
  all_goals refine x_ret' is_cell_Row_there rfl ⟨?_, h⟩
  all_goals first | exact .t (by omega) | exact .f (by omega)

theorem cell_Row_may_spec {b : Nat} {r : RowM} (i : Int) (h : Sat S w (isRow b r :: G)) :
    Ret Tryz.prog F.cell_Row_may #[.pointer (some ⟨b, 0, none⟩), .int .i64 i] w (fun v w' => v = .int .i64 (r.may i) ∧ Sat S w' (isRow b r :: G)) := by
  refine ret_of is_cell_Row_may rfl ?_
  repeat' (first | (refine gC F.cell_Row_there ?_; refine p_call rfl rfl (cell_Row_there_spec _ h) ?_; rintro _ w ⟨⟨rfl, hp⟩ | ⟨rfl, hp⟩, h⟩) | refine stP ?_ | fail)
  · exact x_ret' is_cell_Row_may rfl ⟨by rw [RowM.may, if_pos hp]; rfl, h⟩
  · exact x_ret' is_cell_Row_may rfl ⟨by rw [RowM.may, if_neg hp]; rfl, h⟩

theorem cell_Row_Load_spec {b : Nat} {r : RowM} (i : Int) (h : Sat S w (isRow b r :: G)) :
    Ret Tryz.prog F.cell_Row_Load #[.pointer (some ⟨b, 0, none⟩), .int .i64 i] w (fun v w' => v = .int .u64 (r.load i) ∧ Sat S w' (isRow b r :: G)) := by
  refine ret_of is_cell_Row_Load rfl ?_
  repeat' (first | (refine gC F.cell_Row_there ?_; refine p_call rfl rfl (cell_Row_there_spec _ h) ?_; rintro _ w ⟨⟨rfl, hp⟩ | ⟨rfl, hp⟩, h⟩) | refine stP ?_ | fail)
  · obtain ⟨hok, c, cap, h⟩ := isRow_open h
    repeat' (first | refine stPs ?_ | fail)
    refine p_call rfl rfl (atomic_Uint64_Load_spec (x := r.ws.getD i.toNat 0) (fun w h => ?_) ⟨_, _, rfl⟩ h) ?_
    · have := (ownS_rd h (.there .here)).cell (ints_get (i := i.toNat) (by omega))
      simpa using this
    · rintro _ w ⟨rfl, h⟩
      repeat' (first | refine stPs ?_ | fail)
      exact x_ret' is_cell_Row_Load rfl ⟨by rw [RowM.load, if_pos hp]; rfl, isRow_shut h hok⟩
  · exact x_ret' is_cell_Row_Load rfl ⟨by rw [RowM.load, if_neg hp]; rfl, h⟩

theorem cell_Row_Store_spec {b : Nat} {r : RowM} (i x : Int) (h0 : 0 ≤ x) (h1 : x ≤ 18446744073709551615) (h : Sat S w (isRow b r :: G)) :
    Ret Tryz.prog F.cell_Row_Store #[.pointer (some ⟨b, 0, none⟩), .int .i64 i, .int .u64 x] w (fun v w' => v = .int .i64 (r.may i) ∧ Sat S w' (isRow b (r.store i x) :: G)) := by
  refine ret_of is_cell_Row_Store rfl ?_
  repeat' (first | refine stPs ?_ | (refine p_cmp rfl rfl rfl rfl (fun hc => ?_) (fun hc => ?_) <;> simp only [cmpProp] at hc) | fail)
  refine p_call rfl rfl (cell_Row_may_spec i h) ?_
  rintro _ w ⟨rfl, h⟩
  by_cases hp : 0 ≤ i ∧ i < r.ws.length
  · rw [RowM.may, if_pos hp, RowM.store, if_pos hp]
    obtain ⟨hok, c, cap, h⟩ := isRow_open h
    repeat' (first | refine stPs ?_ | (refine p_cmp rfl rfl rfl rfl (fun hc => ?_) (fun hc => ?_) <;> simp only [cmpProp] at hc) | fail)
    obtain ⟨cs, h, hlt, _, _, hsh⟩ := ownI_write (h.pick (.there .here)) (show i.toNat < r.ws.length by omega)
    refine p_call rfl rfl (atomic_Uint64_Store_spec (o := 0 + i.toNat * 1) x h (by omega)) ?_
    intro _ w h
    have e : 0 + i.toNat * 1 = i.toNat := by omega
    rw [e] at h
    have h := hsh h
    repeat' (first | refine stPs ?_ | (refine p_cmp rfl rfl rfl rfl (fun hc => ?_) (fun hc => ?_) <;> simp only [cmpProp] at hc) | fail)
    exact x_ret' is_cell_Row_Store rfl ⟨rfl, isRow_shut (r := { r with ws := r.ws.set i.toNat x }) (by simpa using h.pick (.there .here)) ⟨r.set_ok hok _ h0 h1, hok.2⟩⟩
  · rw [RowM.may, if_neg hp, RowM.store, if_neg hp]
    repeat' (first | refine stPs ?_ | (refine p_cmp rfl rfl rfl rfl (fun hc => ?_) (fun hc => ?_) <;> simp only [cmpProp] at hc) | fail)
    exact x_ret' is_cell_Row_Store rfl ⟨rfl, h⟩

def RowM.there (r : RowM) (i : Int) : Prop := 0 ≤ i ∧ i < r.ws.length
instance (r : RowM) (i : Int) : Decidable (r.there i) := inferInstanceAs (Decidable (_ ∧ _))
def RowM.cas (r : RowM) (i old new : Int) : RowM := if r.there i then (if r.ws.getD i.toNat 0 = old then ⟨r.ws.set i.toNat new, IntKind.i64.wrap (r.won + 1), r.lost⟩ else ⟨r.ws, r.won, IntKind.i64.wrap (r.lost + 1)⟩) else r
def RowM.add (r : RowM) (i n : Int) : RowM := if r.there i then { r with ws := r.ws.set i.toNat ((r.ws.getD i.toNat 0 + n) % 18446744073709551616) } else r
theorem wrap_ok (z : Int) : -9223372036854775808 ≤ IntKind.i64.wrap z ∧ IntKind.i64.wrap z ≤ 9223372036854775807 := by rw [IntKind.wrap_i64]; omega
theorem RowM.cas_ok {r : RowM} (h : r.ok) (i old : Int) {new : Int} (h0 : 0 ≤ new) (h1 : new ≤ 18446744073709551615) : (r.cas i old new).ok := by
  unfold RowM.cas
  split
  · split
    · exact ⟨r.set_ok h _ h0 h1, wrap_ok _, h.2.2⟩
    · exact ⟨h.1, h.2.1, wrap_ok _⟩
  · exact h
theorem RowM.add_ok {r : RowM} (h : r.ok) (i n : Int) : (r.add i n).ok := by
  unfold RowM.add
  split
  · exact ⟨r.set_ok h _ (by omega) (by omega), h.2⟩
  · exact h

theorem cell_Row_CAS_spec {b : Nat} {r : RowM} (i old new : Int) (h0 : 0 ≤ new) (h1 : new ≤ 18446744073709551615) (h : Sat S w (isRow b r :: G)) :
    Ret Tryz.prog F.cell_Row_CAS #[.pointer (some ⟨b, 0, none⟩), .int .i64 i, .int .u64 old, .int .u64 new] w (fun v w' => v = .tuple #[.bool (decide (r.there i ∧ r.ws.getD i.toNat 0 = old)), .int .i64 (r.may i)] ∧ Sat S w' (isRow b (r.cas i old new) :: G)) := by
  refine ret_of is_cell_Row_CAS rfl ?_
  repeat' (first | refine stPs ?_ | (refine p_cmp rfl rfl rfl rfl (fun hc => ?_) (fun hc => ?_) <;> simp only [cmpProp] at hc) | fail)
  refine p_call rfl rfl (cell_Row_may_spec i h) ?_
  rintro _ w ⟨rfl, h⟩
  by_cases hp : r.there i
  · have hp' : 0 ≤ i ∧ i < r.ws.length := hp
    rw [RowM.may, if_pos hp']
    obtain ⟨hok, c, cap, h⟩ := isRow_open h
    have hok2 := r.cas_ok hok i old h0 h1
    repeat' (first | refine stPs ?_ | (refine p_cmp rfl rfl rfl rfl (fun hc => ?_) (fun hc => ?_) <;> simp only [cmpProp] at hc) | fail)
    obtain ⟨cs, h, hlt, hcs, hsh0, hsh⟩ := ownI_write (h.pick (.there .here)) (show i.toNat < r.ws.length by omega)
    have e : 0 + i.toNat * 1 = i.toNat := by omega
    refine p_call rfl rfl (atomic_Uint64_CompareAndSwap_spec (o := 0 + i.toNat * 1) (r.ws.getD i.toNat 0) old new h (by rw [e]; exact hcs)) ?_
    rintro _ w (⟨rfl, he, h⟩ | ⟨rfl, he, h⟩)
    · rw [e] at h
      have h := hsh h
      repeat' (first | refine stPs ?_ | (refine p_cmp rfl rfl rfl rfl (fun hc => ?_) (fun hc => ?_) <;> simp only [cmpProp] at hc) | fail)
      refine p_call rfl rfl (atomic_Int64_Add_spec (o := 1) r.won 1 (h.pick (.there .here)) rfl) ?_
      rintro _ w ⟨rfl, h⟩
      repeat' (first | refine stPs ?_ | (refine p_cmp rfl rfl rfl rfl (fun hc => ?_) (fun hc => ?_) <;> simp only [cmpProp] at hc) | fail)
      refine x_ret' is_cell_Row_CAS rfl ⟨by rw [decide_eq_true ⟨hp, he⟩]; rfl, ?_⟩
      rw [RowM.cas, if_pos hp, if_pos he] at hok2 ⊢
      exact isRow_shut h hok2
    · have h := hsh0 h
      repeat' (first | refine stPs ?_ | (refine p_cmp rfl rfl rfl rfl (fun hc => ?_) (fun hc => ?_) <;> simp only [cmpProp] at hc) | fail)
      refine p_call rfl rfl (atomic_Int64_Add_spec (o := 2) r.lost 1 (h.pick (.there .here)) rfl) ?_
      rintro _ w ⟨rfl, h⟩
      repeat' (first | refine stPs ?_ | (refine p_cmp rfl rfl rfl rfl (fun hc => ?_) (fun hc => ?_) <;> simp only [cmpProp] at hc) | fail)
      refine x_ret' is_cell_Row_CAS rfl ⟨by rw [decide_eq_false (fun hx => he hx.2)]; rfl, ?_⟩
      rw [RowM.cas, if_pos hp, if_neg he] at hok2 ⊢
      exact isRow_shut h hok2
  · have hp' : ¬ (0 ≤ i ∧ i < r.ws.length) := hp
    rw [RowM.may, if_neg hp']
    repeat' (first | refine stPs ?_ | (refine p_cmp rfl rfl rfl rfl (fun hc => ?_) (fun hc => ?_) <;> simp only [cmpProp] at hc) | fail)
    exact x_ret' is_cell_Row_CAS rfl ⟨by rw [decide_eq_false (fun hx => hp hx.1)]; rfl, by rw [RowM.cas, if_neg hp]; exact h⟩

theorem cell_Row_Add_spec {b : Nat} {r : RowM} (i n : Int) (h : Sat S w (isRow b r :: G)) :
    Ret Tryz.prog F.cell_Row_Add #[.pointer (some ⟨b, 0, none⟩), .int .i64 i, .int .u64 n] w (fun v w' => v = .tuple #[.int .u64 (r.load i), .int .i64 (r.may i)] ∧ Sat S w' (isRow b (r.add i n) :: G)) := by
  refine ret_of is_cell_Row_Add rfl ?_
  repeat' (first | refine stPs ?_ | (refine p_cmp rfl rfl rfl rfl (fun hc => ?_) (fun hc => ?_) <;> simp only [cmpProp] at hc) | fail)
  refine p_call rfl rfl (cell_Row_may_spec i h) ?_
  rintro _ w ⟨rfl, h⟩
  by_cases hp : r.there i
  · have hp' : 0 ≤ i ∧ i < r.ws.length := hp
    rw [RowM.may, if_pos hp', RowM.load, if_pos hp', RowM.add, if_pos hp]
    obtain ⟨hok, c, cap, h⟩ := isRow_open h
    have hg := r.getD_ok hok i.toNat
    repeat' (first | refine stPs ?_ | (refine p_cmp rfl rfl rfl rfl (fun hc => ?_) (fun hc => ?_) <;> simp only [cmpProp] at hc) | fail)
    obtain ⟨cs, h, hlt, hcs, hsh0, hsh⟩ := ownI_write (h.pick (.there .here)) (show i.toNat < r.ws.length by omega)
    have e : 0 + i.toNat * 1 = i.toNat := by omega
    refine p_call rfl rfl (atomic_Uint64_Add_spec (o := 0 + i.toNat * 1) (r.ws.getD i.toNat 0) n h (by rw [e]; exact hcs)) ?_
    rintro _ w ⟨rfl, h⟩
    rw [e] at h
    have h := hsh h
    rw [wrap_u64] at h ⊢
    generalize r.ws.getD i.toNat 0 = q at *
    repeat' (first | (refine p_val rfl (g_subw_u rfl rfl) ?_) | refine stP ?_ | (refine p_cmp rfl rfl rfl rfl (fun hc => ?_) (fun hc => ?_) <;> simp only [cmpProp] at hc) | fail)
    have e2 : ((q + n) % 18446744073709551616 - n) % 18446744073709551616 = q := by omega
    rw [e2]
    refine x_ret' is_cell_Row_Add rfl ⟨rfl, ?_⟩
    exact isRow_shut (r := { r with ws := r.ws.set i.toNat ((q + n) % 18446744073709551616) }) (h.pick (.there .here)) ⟨r.set_ok hok _ (by omega) (by omega), hok.2⟩
  · have hp' : ¬ (0 ≤ i ∧ i < r.ws.length) := hp
    rw [RowM.may, if_neg hp', RowM.load, if_neg hp', RowM.add, if_neg hp]
    repeat' (first | refine stPs ?_ | (refine p_cmp rfl rfl rfl rfl (fun hc => ?_) (fun hc => ?_) <;> simp only [cmpProp] at hc) | fail)
    exact x_ret' is_cell_Row_Add rfl ⟨rfl, h⟩


theorem cell_Row_Len_nil  (h : Sat S w G) :
    Ret Tryz.prog F.cell_Row_Len #[.pointer none] w (fun v w' => v = .int .i64 0 ∧ Sat S w' G) := by
  refine ret_of is_cell_Row_Len rfl ?_
  repeat' (first | refine stPs ?_ | fail)
  exact x_ret' is_cell_Row_Len rfl ⟨rfl, h⟩

theorem cell_Row_there_nil (i : Int) (h : Sat S w G) :
    Ret Tryz.prog F.cell_Row_there #[.pointer none, .int .i64 i] w (fun v w' => v = .bool false ∧ Sat S w' G) := by
  refine ret_of is_cell_Row_there rfl ?_
  repeat' (first | (refine gC F.cell_Row_Len ?_; refine p_call rfl rfl (cell_Row_Len_nil h) ?_; rintro _ w ⟨rfl, h⟩) | refine stP ?_ | (refine p_cmp rfl rfl rfl rfl (fun hc => ?_) (fun hc => ?_) <;> simp only [cmpProp] at hc) | fail)
  all_goals exact x_ret' is_cell_Row_there rfl ⟨rfl, h⟩

theorem cell_Row_may_nil (i : Value) (h : Sat S w G) :
    Ret Tryz.prog F.cell_Row_may #[.pointer none, i] w (fun v w' => v = .int .i64 2 ∧ Sat S w' G) := by
  refine ret_of is_cell_Row_may rfl ?_
  repeat' (first | refine stPs ?_ | fail)
  exact x_ret' is_cell_Row_may rfl ⟨rfl, h⟩

theorem cell_Row_Load_nil (i : Int) (h : Sat S w G) :
    Ret Tryz.prog F.cell_Row_Load #[.pointer none, .int .i64 i] w (fun v w' => v = .int .u64 0 ∧ Sat S w' G) := by
  refine ret_of is_cell_Row_Load rfl ?_
  repeat' (first | (refine gC F.cell_Row_there ?_; refine p_call rfl rfl (cell_Row_there_nil _ h) ?_; rintro _ w ⟨rfl, h⟩) | refine stP ?_ | fail)
  exact x_ret' is_cell_Row_Load rfl ⟨rfl, h⟩

theorem cell_Row_Store_nil (i : Value) (x : Value) (h : Sat S w G) :
    Ret Tryz.prog F.cell_Row_Store #[.pointer none, i, x] w (fun v w' => v = .int .i64 2 ∧ Sat S w' G) := by
  refine ret_of is_cell_Row_Store rfl ?_
  repeat' (first | (refine gC F.cell_Row_may ?_; refine p_call rfl rfl (cell_Row_may_nil _ h) ?_; rintro _ w ⟨rfl, h⟩) | refine stP ?_ | (refine p_cmp rfl rfl rfl rfl (fun hc => ?_) (fun hc => ?_) <;> simp only [cmpProp] at hc) | fail)
  exact x_ret' is_cell_Row_Store rfl ⟨rfl, h⟩

theorem cell_Row_CAS_nil (i : Value) (o : Value) (x : Value) (h : Sat S w G) :
    Ret Tryz.prog F.cell_Row_CAS #[.pointer none, i, o, x] w (fun v w' => v = .tuple #[.bool false, .int .i64 2] ∧ Sat S w' G) := by
  refine ret_of is_cell_Row_CAS rfl ?_
  repeat' (first | (refine gC F.cell_Row_may ?_; refine p_call rfl rfl (cell_Row_may_nil _ h) ?_; rintro _ w ⟨rfl, h⟩) | refine stP ?_ | (refine p_cmp rfl rfl rfl rfl (fun hc => ?_) (fun hc => ?_) <;> simp only [cmpProp] at hc) | fail)
  exact x_ret' is_cell_Row_CAS rfl ⟨rfl, h⟩

theorem cell_Row_Add_nil (i : Value) (x : Value) (h : Sat S w G) :
    Ret Tryz.prog F.cell_Row_Add #[.pointer none, i, x] w (fun v w' => v = .tuple #[.int .u64 0, .int .i64 2] ∧ Sat S w' G) := by
  refine ret_of is_cell_Row_Add rfl ?_
  repeat' (first | (refine gC F.cell_Row_may ?_; refine p_call rfl rfl (cell_Row_may_nil _ h) ?_; rintro _ w ⟨rfl, h⟩) | refine stP ?_ | (refine p_cmp rfl rfl rfl rfl (fun hc => ?_) (fun hc => ?_) <;> simp only [cmpProp] at hc) | fail)
  exact x_ret' is_cell_Row_Add rfl ⟨rfl, h⟩


theorem cell_Row_within_nil (i : Value) (n : Value) (h : Sat S w G) :
    Ret Tryz.prog F.cell_Row_within #[.pointer none, i, n] w (fun v w' => v = .int .i64 2 ∧ Sat S w' G) := by
  refine ret_of is_cell_Row_within rfl ?_
  repeat' (first | refine stPs ?_ | (refine p_cmp rfl rfl rfl rfl (fun hc => ?_) (fun hc => ?_) <;> simp only [cmpProp] at hc) | fail)
  exact x_ret' is_cell_Row_within rfl ⟨rfl, h⟩

theorem cell_Row_Words_nil (i : Value) (n : Value) (h : Sat S w G) :
    Ret Tryz.prog F.cell_Row_Words #[.pointer none, i, n] w (fun v w' => v = .tuple #[.slice none 0 0, .int .i64 2] ∧ Sat S w' G) := by
  refine ret_of is_cell_Row_Words rfl ?_
  repeat' (first | (refine gC F.cell_Row_within ?_; refine p_call rfl rfl (cell_Row_within_nil _ _ h) ?_; rintro _ w ⟨rfl, h⟩) | refine stP ?_ | (refine p_cmp rfl rfl rfl rfl (fun hc => ?_) (fun hc => ?_) <;> simp only [cmpProp] at hc) | fail)
  exact x_ret' is_cell_Row_Words rfl ⟨rfl, h⟩

theorem cell_Row_Fill_nil (i : Value) (a : Option Addr) (l c : Nat) (h : Sat S w G) :
    Ret Tryz.prog F.cell_Row_Fill #[.pointer none, i, .slice a l c] w (fun v w' => v = .int .i64 2 ∧ Sat S w' G) := by
  refine ret_of is_cell_Row_Fill rfl ?_
  repeat' (first | (refine gC F.cell_Row_within ?_; refine p_call rfl rfl (cell_Row_within_nil _ _ h) ?_; rintro _ w ⟨rfl, h⟩) | refine stP ?_ | (refine p_cmp rfl rfl rfl rfl (fun hc => ?_) (fun hc => ?_) <;> simp only [cmpProp] at hc) | fail)
  exact x_ret' is_cell_Row_Fill rfl ⟨rfl, h⟩
def RowM.inR (r : RowM) (i n : Int) : Prop := 0 ≤ n ∧ 0 ≤ i ∧ n ≤ r.ws.length ∧ i ≤ r.ws.length - n
instance (r : RowM) (i n : Int) : Decidable (r.inR i n) := inferInstanceAs (Decidable (_ ∧ _))

theorem cell_Row_within_spec {b : Nat} {r : RowM} (i n : Int) (h : Sat S w (isRow b r :: G)) :
    Ret Tryz.prog F.cell_Row_within #[.pointer (some ⟨b, 0, none⟩), .int .i64 i, .int .i64 n] w (fun v w' => v = .int .i64 (if r.inR i n then 0 else 1) ∧ Sat S w' (isRow b r :: G)) := by
  have hok := (isRow_open h).1
  have hl := hok.1.2.1
  refine ret_of is_cell_Row_within rfl ?_
  by_cases hp : r.inR i n
  · have hp' := hp
    unfold RowM.inR at hp'
    rw [if_pos hp]
    repeat' (first | (refine gC F.cell_Row_Len ?_; refine p_call rfl rfl (cell_Row_Len_spec h) ?_; rintro _ w ⟨rfl, h⟩) | refine stP ?_ | (refine p_cmp rfl rfl rfl rfl (fun hc => ?_) (fun hc => ?_) <;> simp only [cmpProp] at hc) | fail)
    exact x_ret' is_cell_Row_within rfl ⟨rfl, h⟩
  · have hp' := hp
    unfold RowM.inR at hp'
    rw [if_neg hp]
    repeat' (first | (refine gC F.cell_Row_Len ?_; refine p_call rfl rfl (cell_Row_Len_spec h) ?_; rintro _ w ⟨rfl, h⟩) | refine stP ?_ | (refine p_cmp rfl rfl rfl rfl (fun hc => ?_) (fun hc => ?_) <;> simp only [cmpProp] at hc) | fail)
    all_goals first | (exfalso; omega) | exact x_ret' is_cell_Row_within rfl ⟨rfl, h⟩

theorem cell_Row_Words_spec {b : Nat} {r : RowM} (i n : Int) (h : Sat S w (isRow b r :: G)) :
    Ret Tryz.prog F.cell_Row_Words #[.pointer (some ⟨b, 0, none⟩), .int .i64 i, .int .i64 n] w (fun v w' => (¬ r.inR i n ∧ v = .tuple #[.slice none 0 0, .int .i64 1] ∧ Sat S w' (isRow b r :: G)) ∨
      (r.inR i n ∧ ∃ u, v = .tuple #[u, .int .i64 0] ∧ Sat S w' (ownS T.uint64 1 u (ints .u64 ((r.ws.drop i.toNat).take n.toNat)) :: isRow b r :: G))) := by
  have hok := (isRow_open h).1
  have hl := hok.1.2.1
  refine ret_of is_cell_Row_Words rfl ?_
  repeat' (first | refine stPs ?_ | (refine p_cmp rfl rfl rfl rfl (fun hc => ?_) (fun hc => ?_) <;> simp only [cmpProp] at hc) | fail)
  refine p_call rfl rfl (cell_Row_within_spec i n h) ?_
  rintro _ w ⟨rfl, h⟩
  by_cases hp : r.inR i n
  · have hp' := hp
    unfold RowM.inR at hp'
    rw [if_pos hp]
    obtain ⟨n, rfl⟩ := Int.eq_ofNat_of_zero_le hp'.1
    obtain ⟨i, rfl⟩ := Int.eq_ofNat_of_zero_le hp'.2.1
    obtain ⟨_, c, cap, h⟩ := isRow_open h
    repeat' (first | refine stPs ?_ | (refine p_cmp rfl rfl rfl rfl (fun hc => ?_) (fun hc => ?_) <;> simp only [cmpProp] at hc) | fail)
    refine p_mkI rfl rfl (by omega) (by omega) h (fun v w h => ?_)
    obtain ⟨av, lv, cv, rfl, hlv, _⟩ := ownS_slice h .here
    rw [ints_length, List.length_replicate, Nat.mul_one] at hlv
    subst hlv
    repeat' (first | refine stPs ?_ | (refine p_cmp rfl rfl rfl rfl (fun hc => ?_) (fun hc => ?_) <;> simp only [cmpProp] at hc) | fail)
    have e0 : List.replicate n (0 : Int) = (r.ws.drop i).take 0 ++ List.replicate (n - 0) 0 := by simp
    rw [e0] at h
    refine x_keep [0, 1, 9, 21, 22] rfl ?_
    refine x_loop_inv (fun lm le w => ∃ (j : Nat), lm = n - j ∧ j ≤ n ∧ le = [(0, .pointer (some ⟨b, 0, none⟩)), (1, .int .i64 i), (9, .slice av n cv), (21, .int .i64 n), (22, .int .i64 j)] ∧ Sat S w (ownS T.uint64 1 (.slice av n cv) (ints .u64 ((r.ws.drop i).take j ++ List.replicate (n - j) 0)) :: pt b (.cells #[.slice (some ⟨c, 0, none⟩) r.ws.length cap, .int .i64 r.won, .int .i64 r.lost] T.cell_Row (0, 0)) :: ownS T.atomic_Uint64 1 (.slice (some ⟨c, 0, none⟩) r.ws.length cap) (ints .u64 r.ws) :: G)) (n) ⟨0, rfl, by omega, rfl, h⟩ ?_
    clear h
    rintro lm le w ⟨j, rfl, hi0, rfl, h⟩ ih
    by_cases h1 : j < n
    · obtain ⟨bv, rfl⟩ := ownS_addr h .here (by omega)
      have hlen : ((r.ws.drop i).take j).length = j := by rw [List.length_take, List.length_drop]; omega
      have hlt : j < ((r.ws.drop i).take j ++ List.replicate (n - j) 0).length := by rw [List.length_append, hlen, List.length_replicate]; omega
      have hx : (r.ws.drop i)[j]? = some (r.ws.getD (i + j) 0) := by
        rw [List.getElem?_drop, List.getD_eq_getElem?_getD, List.getElem?_eq_getElem (by omega)]; rfl
      have hset : ((r.ws.drop i).take j ++ List.replicate (n - j) 0).set j (r.ws.getD (i + j) 0) = (r.ws.drop i).take (j + 1) ++ List.replicate (n - (j + 1)) 0 := by
        rw [List.set_append_right _ _ (by omega), hlen, Nat.sub_self, take_next hx]
        have : n - j = (n - (j + 1)) + 1 := by omega
        rw [this, List.replicate_succ, List.set_cons_zero]
        simp
      repeat' (first | refine stPs ?_ | (refine p_cmp rfl rfl rfl rfl (fun hc => ?_) (fun hc => ?_) <;> simp only [cmpProp] at hc) | fail)
      refine p_call rfl rfl (atomic_Uint64_Load_spec (x := r.ws.getD (i + j) 0) (fun w h => ?_) ⟨_, _, rfl⟩ h) ?_
      · have := (ownS_rd h (.there (.there .here))).cell (ints_get (i := i + j) (by omega))
        have e2 : ((i : Int) + (j : Int)).toNat = i + j := by omega
        simpa [e2] using this
      rintro _ w ⟨rfl, h⟩
      repeat' (first | refine stPs ?_ | (refine p_cmp rfl rfl rfl rfl (fun hc => ?_) (fun hc => ?_) <;> simp only [cmpProp] at hc) | fail)
      refine p_do rfl (d_stI (i := j) rfl rfl h (by omega) hlt) ?_
      rintro _ w ⟨rfl, h⟩
      rw [hset] at h
      repeat' (first | refine stPs ?_ | (refine p_cmp rfl rfl rfl rfl (fun hc => ?_) (fun hc => ?_) <;> simp only [cmpProp] at hc) | fail)
      exact x_keep [0, 1, 9, 21, 22] rfl (ih _ _ _ (by omega) ⟨j + 1, rfl, by omega, rfl, h⟩)
    · obtain rfl : j = n := by omega
      rw [Nat.sub_self, List.replicate_zero, List.append_nil] at h
      repeat' (first | refine stPs ?_ | (refine p_cmp rfl rfl rfl rfl (fun hc => ?_) (fun hc => ?_) <;> simp only [cmpProp] at hc) | fail)
      refine x_ret' is_cell_Row_Words rfl (.inr ⟨hp, _, rfl, ?_⟩)
      exact (isRow_shut ((h.pick (.there .here)).pick (.there (.there .here)) |>.pick (.there .here)) hok).pick (.there .here)
  · rw [if_neg hp]
    repeat' (first | refine stPs ?_ | (refine p_cmp rfl rfl rfl rfl (fun hc => ?_) (fun hc => ?_) <;> simp only [cmpProp] at hc) | fail)
    exact x_ret' is_cell_Row_Words rfl (.inl ⟨hp, rfl, h⟩)
theorem isRow_ok {b : Nat} {r : RowM} {G' : List HProp} (h : Sat S w G) (hh : Has G (isRow b r) G') : r.ok := (isRow_open (h.pick hh)).1
end
end Go.Proofs.YtflbfdmmfoigaaaGreat
