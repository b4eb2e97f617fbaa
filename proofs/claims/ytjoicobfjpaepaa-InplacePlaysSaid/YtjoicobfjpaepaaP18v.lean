/- Layer 18 (inplace): a scene's words; a value of so many bytes. -/
import Derived.Test.YtjoicobfjpaepaaHxS
import Derived.Test.YtjoicobfjpaepaaP18u
namespace Go.Proofs.Ytjoicobfjpaepaa
open Go Go.HX
attribute [local irreducible] Ret XRun XOps XDr XOne Does Gives
set_option maxRecDepth 4000
set_option maxHeartbeats 1000000
theorem stC0_P18v {goal next : Prop} (k : next) (hs : Hid next → goal := by (intro k; (first | (refine gC F.ref01_Words ?_; refine p_call rfl rfl (ref01_Words_spec _ ?_ h) ?_; iterate 1 (first | assumption | omega | (simp only []; omega) | decide)) | fail); exact k.out)) : goal := hs ⟨k⟩
theorem stC1_P18v {goal next : Prop} (k : next) (hs : Hid next → goal := by (intro k; (first | (refine gBx ?_; refine p_do rfl (d_boxL rfl h (by first | (dsimp only [Value.cells]; done) | exact rfl)) ?_) | fail); exact k.out)) : goal := hs ⟨k⟩
theorem stD2_P18v {goal next : Prop} (k : next) (hs : Hid next → goal := by (intro k; (first | (refine gCR F.pages_Buffer_Words ?_; refine r_call rfl rfl rfl (pages_Buffer_Words_spec _ _ ?_ ?_ ?_ _ ?_ ?_ (h.rf3)) ?_; iterate 5 (first | assumption | omega | (simp only []; omega) | decide)) | fail); exact k.out)) : goal := hs ⟨k⟩
theorem onp_words {x : BufM} {c : CelM} {n : Nat} (h : OnPage x c n) : (x.wr.ws.drop (x.cell 5).toNat).take c.l.length = c.l := by
  have hl := h.len
  have hle := h.le
  rw [h.cell (by decide) (by decide), show (5 : Int).toNat = 5 from rfl]
  apply List.ext_getElem
  · simp; omega
  · intro i h1 h2
    have := h.wds i h2
    rw [List.getD_eq_getElem?_getD, List.getD_eq_getElem?_getD, List.getElem?_eq_getElem (by omega), List.getElem?_eq_getElem h2] at this
    simpa using this
section
variable {S : SP} {w : World} {G : List HProp}

theorem law18_fit_spec (s : ByteArray) (n : Nat) (hs : s.size ≤ 9223372036854775807) (hn : n ≤ 1000) (h : Sat S w G) :
    Ret Try.prog F.law18_fit #[.string s, .int .i64 n] w (fun v w' => (∃ t, v = .string t ∧ t.size = n) ∧ Sat S w' G) := by
  refine ret_of is_law18_fit rfl ?_
  by_cases hc : (n : Int) ≤ s.size
  · repeat' (first | (refine p_val rfl (g_sls (ol := none) (oh := some (n : Int)) (l' := 0) (h' := n) rfl rfl rfl rfl rfl (by omega) (by omega)) ?_) | refine stP ?_ | (refine p_cmp rfl rfl rfl rfl (fun hc => ?_) (fun hc => ?_) <;> simp only [cmpProp] at hc) | fail)
    exact x_ret' is_law18_fit rfl ⟨⟨_, rfl, by rw [ByteArray.size_extract]; omega⟩, h⟩
  · repeat' (first | (refine p_do rfl (d_mkN (n := n - s.size) (sz := 1) (by rw [show (((n - s.size : Nat)) : Int) = n - s.size by omega]; rfl) rfl (by decide) (by omega) (by omega) h) ?_; intro v1 w h) | (refine p_val rfl (g_b2s rfl (ownS_rd h (by repeat first | exact .here | apply Has.there))) ?_) | (refine p_val rfl (g_sadd rfl rfl (by rw [strOfNums_size]; simp; omega)) ?_) | refine stP ?_ | (refine p_cmp rfl rfl rfl rfl (fun hc => ?_) (fun hc => ?_) <;> simp only [cmpProp] at hc) | fail)
    refine x_ret' is_law18_fit rfl ⟨⟨_, rfl, ?_⟩, h.drop⟩
    rw [ByteArray.size_append, strOfNums_size]
    simp
    omega

theorem ref18_Of_spec (s : ByteArray) (hs : s.size ≤ 1000) (h : Sat S w G) :
    Ret Try.prog F.ref18_Of #[.string s] w (fun v w' => ∃ cb lv, v = .pointer (some ⟨cb, 0, none⟩) ∧ Sat S w' (pt cb (.cells (celC ⟨false, 0, wordsZ s⟩ lv).toArray T.haycroftref18_Cells (0, 0)) :: ownS T.uint64 1 lv (ints .u64 (wordsZ s)) :: G)) := by
  refine ret_of is_ref18_Of rfl ?_
  repeat' (first | (refine gC F.ref01_Words ?_; refine p_call rfl rfl (ref01_Words_spec s (by omega) h) ?_; intro v w h; obtain ⟨va, vl, vc, rfl, _, _⟩ := ownS_slice h .here) | refine stP ?_ | (refine stC0_P18v ?_; rintro v w h) | (refine stC1_P18v ?_; rintro _ w ⟨bx, rfl, h⟩) | fail)
  exact x_ret' is_ref18_Of rfl ⟨_, _, rfl, h.pm2⟩

set_option maxHeartbeats 4000000 in
theorem law18_scene_words_spec {b c d sx cb n : Nat} {bx : BufM} {wv rv mv lv : Value} {m cc : CelM} (hcl : cc.l.length = m.l.length) (hp : OnPage bx m n) (h : Sat S w (pt sx (.cells #[.pointer (some ⟨b, 0, none⟩), .pointer (some ⟨cb, 0, none⟩), wv, rv, mv] T.haycroftlaw18_scene (0, 0)) :: pt cb (.cells (celC cc lv).toArray T.haycroftref18_Cells (0, 0)) :: ownS T.uint64 1 lv (ints .u64 cc.l) :: pt b (.cells (bufC (bx) c d) T.pages_Buffer (0, 0)) :: isRow c (bx).wr :: isRow d (bx).hr :: G)) :
    Ret Try.prog F.law18_scene_words #[.pointer (some ⟨sx, 0, none⟩)] w (fun v w' => Sat S w' (ownS T.uint64 1 v (ints .u64 m.l) :: pt sx (.cells #[.pointer (some ⟨b, 0, none⟩), .pointer (some ⟨cb, 0, none⟩), wv, rv, mv] T.haycroftlaw18_scene (0, 0)) :: pt cb (.cells (celC cc lv).toArray T.haycroftref18_Cells (0, 0)) :: ownS T.uint64 1 lv (ints .u64 cc.l) :: pt b (.cells (bufC (bx) c d) T.pages_Buffer (0, 0)) :: isRow c (bx).wr :: isRow d (bx).hr :: G)) := by
  obtain ⟨la, ll, lc, rfl, hll, _⟩ := ownS_slice h (.there (.there .here))
  rw [ints_length, Nat.mul_one] at hll
  have hle := hp.le
  have hok := hp.ok
  have hrm := hp.room
  have hi5 := hp.isIn (a := 5) (by decide) (by decide)
  have hwd := onp_words hp
  refine ret_of is_law18_scene_words rfl ?_
  by_cases h0 : ll = 0
  · subst h0
    repeat' (first | refine stPs ?_ | (refine stD2_P18v ?_; rintro _ w ⟨u, rfl, h⟩ <;> refine nowa ?_) | (refine p_cmp rfl rfl rfl rfl (fun hc => ?_) (fun hc => ?_) <;> simp only [cmpProp] at hc) | (refine r_cmp rfl rfl rfl rfl rfl (fun hc => ?_) (fun hc => ?_) <;> simp only [cmpProp] at hc) | (refine x_drawn rfl ?_; have h := h.drew) | refine x_drawn rfl ?_ | fail)
    have e : m.l = [] := List.eq_nil_of_length_eq_zero (by omega)
    rw [e]
    exact x_ret' is_law18_scene_words rfl (ownS_none (h.pm6))
  · repeat' (first | (refine gCR F.pages_Buffer_Words ?_; refine r_call rfl rfl rfl (pages_Buffer_Words_spec 5 ll (by decide) (by decide) hok hi5 (by omega) (by rw [hrm]; omega) (h.rf3)) ?_; rw [show (ll : Int).toNat = m.l.length by omega, hwd]; rintro _ w ⟨u, rfl, h⟩; refine nowa ?_; obtain ⟨ua, ul, uc, rfl, _, _⟩ := ownS_slice h .here) | refine stP ?_ | (refine stD2_P18v ?_; rintro _ w ⟨u, rfl, h⟩ <;> refine nowa ?_) | (refine p_cmp rfl rfl rfl rfl (fun hc => ?_) (fun hc => ?_) <;> simp only [cmpProp] at hc) | (refine r_cmp rfl rfl rfl rfl rfl (fun hc => ?_) (fun hc => ?_) <;> simp only [cmpProp] at hc) | (refine x_drawn rfl ?_; have h := h.drew) | refine x_drawn rfl ?_ | fail)
    exact x_ret' is_law18_scene_words rfl (h.pm7)
end
end Go.Proofs.Ytjoicobfjpaepaa
