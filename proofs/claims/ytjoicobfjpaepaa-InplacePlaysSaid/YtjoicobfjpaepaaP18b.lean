/- Layer 18 (inplace): writers, readers that are made. -/
import Derived.Test.YtjoicobfjpaepaaHxS
import Derived.Test.YtjoicobfjpaepaaP18
namespace Go.Proofs.Ytjoicobfjpaepaa
open Go Go.HX
attribute [local irreducible] Ret XRun XOps XDr XOne Does Gives
set_option maxRecDepth 4000
set_option maxHeartbeats 1000000
theorem stC0_P18b {goal next : Prop} (k : next) (hs : Hid next → goal := by (intro k; (first | (refine gC F.inplace_find ?_; refine p_call rfl rfl (inplace_find_nil _ _ _ h) ?_) | (refine gC F.inplace_find ?_; refine p_call rfl rfl (inplace_find_spec _ _ _ ?_ ?_ (h.rf1)) ?_; iterate 2 (first | assumption | omega | (simp only []; omega) | decide)) | (refine gS ?_; (first | refine p_do rfl (d_stwL rfl rfl rfl rfl rfl (h.pick (by repeat first | exact .here | apply Has.there)) (by first | (dsimp only [Value.cells]; done) | exact rfl)) ?_ | refine p_do rfl (d_stL rfl rfl rfl (h.pick (by repeat first | exact .here | apply Has.there)) (by first | exact of_decide_eq_true rfl | simp) (by first | (dsimp only [List.set]; done) | exact rfl)) ?_)) | (refine gC F.record_Value ?_; refine p_call rfl rfl (record_Value_spec _ ?_ ?_ h) ?_; iterate 2 (first | assumption | omega | (simp only []; omega) | decide)) | fail); exact k.out)) : goal := hs ⟨k⟩
theorem stC1_P18b {goal next : Prop} (k : next) (hs : Hid next → goal := by (intro k; (first | (refine gBx ?_; refine p_do rfl (d_boxL rfl h (by first | (dsimp only [Value.cells]; done) | exact rfl)) ?_) | (refine gN ?_; refine p_do rfl (d_newL h (by first | (dsimp only [Value.cells]; done) | exact rfl)) ?_) | fail); exact k.out)) : goal := hs ⟨k⟩
theorem stD2_P18b {goal next : Prop} (k : next) (hs : Hid next → goal := by (intro k; (first | (refine gCR F.field_Words ?_; refine r_call rfl rfl rfl (field_Words_spec _ ?_ h) ?_; iterate 1 (first | assumption | omega | (simp only []; omega) | decide)) | fail); exact k.out)) : goal := hs ⟨k⟩
theorem stD3_P18b {goal next : Prop} (k : next) (hs : Hid next → goal := by (intro k; (first | (refine gBxR ?_; refine r_do rfl rfl (d_boxL rfl h (by first | (dsimp only [Value.cells]; done) | exact rfl)) ?_) | fail); exact k.out)) : goal := hs ⟨k⟩
theorem stC4_P18b {goal next : Prop} (k : next) (hs : Hid next → goal := by (intro k; (first | (refine gC F.inplace_NewWriter ?_; refine p_call rfl rfl (inplace_NewWriter_spec _ _ _ ?_ ?_ ?_ (h.rf1)) ?_; iterate 3 (first | assumption | omega | (simp only []; omega) | decide)) | fail); exact k.out)) : goal := hs ⟨k⟩
/-- A writer: its spot's lock, value and words; its state, does it add, its number, its place, the lock as it holds it. -/
structure WrM where
  lock : Int
  val : Int
  words : Int
  st : Int
  add : Bool
  n : Int
  at_ : Int
  held : Int
def wrC (b : Nat) (x : WrM) (v : Value) : List Value := spotC (.pointer (some ⟨b, 0, none⟩)) x.lock x.val x.words ++ [.int .i64 x.st, .bool x.add, .int .u64 x.n, v, .int .i64 x.at_, .int .u64 x.held]
structure RdM where
  lock : Int
  val : Int
  words : Int
  st : Int
  n : Int
  seen : Int
  value : ByteArray
def rdC (b : Nat) (x : RdM) (v : Value) : List Value := spotC (.pointer (some ⟨b, 0, none⟩)) x.lock x.val x.words ++ [.int .i64 x.st, .int .i64 x.n, v, .int .u64 x.seen, .string x.value]
section
variable {S : SP} {w : World} {G : List HProp}

set_option maxHeartbeats 4000000 in
theorem inplace_NewReader_spec {b c d : Nat} {x : BufM} (a k n : Int) (a0 : 0 ≤ a) (a1 : a ≤ 18446744073709551615) (h : Sat S w (pt b (.cells (bufC x c d) T.pages_Buffer (0, 0)) :: G)) :
    Ret Try.prog F.inplace_NewReader #[.pointer (some ⟨b, 0, none⟩), .int .u64 a, .int .i64 k, .int .i64 n] w (fun v w' => (¬ placeP x.bits a k n ∧ v = .tuple #[.pointer none, .int .i64 1] ∧ Sat S w' (pt b (.cells (bufC x c d) T.pages_Buffer (0, 0)) :: G)) ∨ (placeP x.bits a k n ∧ ∃ r, v = .tuple #[.pointer (some ⟨r, 0, none⟩), .int .i64 0] ∧ Sat S w' (pt r (.cells (rdC b ⟨a + 1, a + sizeV k 0, sizeV k n - sizeV k 0, 0, n, 0, ⟨#[]⟩⟩ (.slice none 0 0)).toArray T.inplace_Reader (0, 0)) :: pt b (.cells (bufC x c d) T.pages_Buffer (0, 0)) :: G))) := by
  refine ret_of is_inplace_NewReader rfl ?_
  by_cases hp : placeP x.bits a k n
  · repeat' (first | (refine gC F.inplace_find ?_; refine p_call rfl rfl (inplace_find_spec a k n a0 a1 (h.rf1)) ?_; rw [if_pos hp, if_pos hp]; rintro _ w ⟨rfl, h⟩) | refine stP ?_ | (refine stC0_P18b ?_; rintro _ w ⟨rfl, h⟩) | (refine stC1_P18b ?_; rintro _ w ⟨bx, rfl, h⟩) | (refine p_cmp rfl rfl rfl rfl (fun hc => ?_) (fun hc => ?_) <;> simp only [cmpProp] at hc) | fail)
    exact x_ret' is_inplace_NewReader rfl (.inr ⟨hp, _, rfl, h.pm2⟩)
  · repeat' (first | (refine gC F.inplace_find ?_; refine p_call rfl rfl (inplace_find_spec a k n a0 a1 (h.rf1)) ?_; rw [if_neg hp, if_neg hp]; rintro _ w ⟨rfl, h⟩) | refine stP ?_ | (refine stC0_P18b ?_; rintro _ w ⟨rfl, h⟩) | (refine stC1_P18b ?_; rintro _ w ⟨bx, rfl, h⟩) | (refine p_cmp rfl rfl rfl rfl (fun hc => ?_) (fun hc => ?_) <;> simp only [cmpProp] at hc) | fail)
    exact x_ret' is_inplace_NewReader rfl (.inl ⟨hp, rfl, h.pm1⟩)

set_option maxHeartbeats 4000000 in
theorem inplace_NewWriter_spec {b c d : Nat} {x : BufM} (a k : Int) (s : ByteArray) (a0 : 0 ≤ a) (a1 : a ≤ 18446744073709551615) (hs : s.size ≤ 140737488355328) (h : Sat S w (pt b (.cells (bufC x c d) T.pages_Buffer (0, 0)) :: G)) :
    Ret Try.prog F.inplace_NewWriter #[.pointer (some ⟨b, 0, none⟩), .int .u64 a, .int .i64 k, .string s] w (fun v w' => (¬ placeP x.bits a k s.size ∧ v = .tuple #[.pointer none, .int .i64 1] ∧ Sat S w' (pt b (.cells (bufC x c d) T.pages_Buffer (0, 0)) :: G)) ∨ (placeP x.bits a k s.size ∧ ∃ r u, v = .tuple #[.pointer (some ⟨r, 0, none⟩), .int .i64 0] ∧ Sat S w' (pt r (.cells (wrC b ⟨a + 1, a + sizeV k 0, sizeV k s.size - sizeV k 0, 0, false, 0, 0, 0⟩ u).toArray T.inplace_Writer (0, 0)) :: ownS T.uint64 1 u (ints .u64 (wordsZ s)) :: pt b (.cells (bufC x c d) T.pages_Buffer (0, 0)) :: G))) := by
  refine ret_of is_inplace_NewWriter rfl ?_
  by_cases hp : placeP x.bits a k s.size
  · repeat' (first | (refine gC F.inplace_find ?_; refine p_call rfl rfl (inplace_find_spec a k s.size a0 a1 (h.rf1)) ?_; rw [if_pos hp, if_pos hp]; rintro _ w ⟨rfl, h⟩) | refine stP ?_ | (refine stC0_P18b ?_; rintro _ w ⟨rfl, h⟩) | (refine stC1_P18b ?_; rintro _ w ⟨bx, rfl, h⟩) | (refine stD2_P18b ?_; rintro v w h <;> refine nowa ?_) | (refine stD3_P18b ?_; rintro _ w ⟨bx, rfl, h⟩ <;> refine nowa ?_) | (refine p_cmp rfl rfl rfl rfl (fun hc => ?_) (fun hc => ?_) <;> simp only [cmpProp] at hc) | (refine r_cmp rfl rfl rfl rfl rfl (fun hc => ?_) (fun hc => ?_) <;> simp only [cmpProp] at hc) | (refine x_drawn rfl ?_; have h := h.drew) | refine x_drawn rfl ?_ | fail)
    obtain ⟨va, vl, vc, rfl, _, _⟩ := ownS_slice h .here
    repeat' (first | refine stPs ?_ | (refine stC0_P18b ?_; rintro _ w ⟨rfl, h⟩) | (refine stC1_P18b ?_; rintro _ w ⟨bx, rfl, h⟩) | (refine stD2_P18b ?_; rintro v w h <;> refine nowa ?_) | (refine stD3_P18b ?_; rintro _ w ⟨bx, rfl, h⟩ <;> refine nowa ?_) | (refine p_cmp rfl rfl rfl rfl (fun hc => ?_) (fun hc => ?_) <;> simp only [cmpProp] at hc) | (refine r_cmp rfl rfl rfl rfl rfl (fun hc => ?_) (fun hc => ?_) <;> simp only [cmpProp] at hc) | (refine x_drawn rfl ?_; have h := h.drew) | refine x_drawn rfl ?_ | fail)
    exact x_ret' is_inplace_NewWriter rfl (.inr ⟨hp, _, _, rfl, h.pm3⟩)
  · repeat' (first | (refine gC F.inplace_find ?_; refine p_call rfl rfl (inplace_find_spec a k s.size a0 a1 (h.rf1)) ?_; rw [if_neg hp, if_neg hp]; rintro _ w ⟨rfl, h⟩) | refine stP ?_ | (refine stC0_P18b ?_; rintro _ w ⟨rfl, h⟩) | (refine stC1_P18b ?_; rintro _ w ⟨bx, rfl, h⟩) | (refine stD2_P18b ?_; rintro v w h <;> refine nowa ?_) | (refine stD3_P18b ?_; rintro _ w ⟨bx, rfl, h⟩ <;> refine nowa ?_) | (refine p_cmp rfl rfl rfl rfl (fun hc => ?_) (fun hc => ?_) <;> simp only [cmpProp] at hc) | (refine r_cmp rfl rfl rfl rfl rfl (fun hc => ?_) (fun hc => ?_) <;> simp only [cmpProp] at hc) | (refine x_drawn rfl ?_; have h := h.drew) | refine x_drawn rfl ?_ | fail)
    exact x_ret' is_inplace_NewWriter rfl (.inl ⟨hp, rfl, h.pm1⟩)

theorem inplace_NewAdder_spec {b c d : Nat} {x : BufM} (a k n : Int) (a0 : 0 ≤ a) (a1 : a ≤ 18446744073709551615) (h : Sat S w (pt b (.cells (bufC x c d) T.pages_Buffer (0, 0)) :: G)) :
    Ret Try.prog F.inplace_NewAdder #[.pointer (some ⟨b, 0, none⟩), .int .u64 a, .int .i64 k, .int .u64 n] w (fun v w' => (¬ placeP x.bits a k 8 ∧ v = .tuple #[.pointer none, .int .i64 1] ∧ Sat S w' (pt b (.cells (bufC x c d) T.pages_Buffer (0, 0)) :: G)) ∨ (placeP x.bits a k 8 ∧ ∃ r u, v = .tuple #[.pointer (some ⟨r, 0, none⟩), .int .i64 0] ∧ Sat S w' (pt r (.cells (wrC b ⟨a + 1, a + sizeV k 0, sizeV k 8 - sizeV k 0, 0, true, n, 0, 0⟩ u).toArray T.inplace_Writer (0, 0)) :: ownS T.uint64 1 u (ints .u64 (wordsZ (valueV 0))) :: pt b (.cells (bufC x c d) T.pages_Buffer (0, 0)) :: G))) := by
  refine ret_of is_inplace_NewAdder rfl ?_
  have hv := valueV_size 0
  repeat' (first | (refine gC F.record_Value ?_; refine p_call rfl rfl (record_Value_spec 0 (by omega) (by omega) h) ?_; rintro _ w ⟨rfl, h⟩) | refine stP ?_ | (refine p_cmp rfl rfl rfl rfl (fun hc => ?_) (fun hc => ?_) <;> simp only [cmpProp] at hc) | fail)
  refine p_call rfl rfl (inplace_NewWriter_spec a k (valueV 0) a0 a1 (by omega) h) ?_
  rw [hv]
  rintro _ w (⟨hp, rfl, h⟩ | ⟨hp, r, u, rfl, h⟩)
  · repeat' (first | refine stPs ?_ | (refine stC0_P18b ?_; rintro _ w ⟨rfl, h⟩) | (refine stC4_P18b ?_; rintro _ w (⟨hq1, rfl, h⟩ | ⟨hq2, ⟨r, u, rfl, h⟩⟩)) | (refine p_cmp rfl rfl rfl rfl (fun hc => ?_) (fun hc => ?_) <;> simp only [cmpProp] at hc) | fail)
    exact x_ret' is_inplace_NewAdder rfl (.inl ⟨hp, rfl, h⟩)
  · repeat' (first | refine stPs ?_ | (refine stC0_P18b ?_; rintro _ w ⟨rfl, h⟩) | (refine stC4_P18b ?_; rintro _ w (⟨hq1, rfl, h⟩ | ⟨hq2, ⟨r, u, rfl, h⟩⟩)) | (refine p_cmp rfl rfl rfl rfl (fun hc => ?_) (fun hc => ?_) <;> simp only [cmpProp] at hc) | fail)
    exact x_ret' is_inplace_NewAdder rfl (.inr ⟨hp, _, _, rfl, h.pm3⟩)
end
end Go.Proofs.Ytjoicobfjpaepaa
