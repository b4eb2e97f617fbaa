/- Layer 18 (inplace): a move of one of all who are at a record. -/
import Derived.Test.YtjoicobfjpaepaaHxS
import Derived.Test.YtjoicobfjpaepaaL18c
import Derived.Test.YtjoicobfjpaepaaP18g
namespace Go.Proofs.Ytjoicobfjpaepaa
open Go Go.HX
attribute [local irreducible] Ret XRun XOps XDr XOne Does Gives
set_option maxRecDepth 4000
set_option maxHeartbeats 1000000
-- MACRO SCN(x) = pt sx (.cells #[.pointer (some ⟨b, 0, none⟩), .pointer (some ⟨cb, 0, none⟩), wv, rv, mv] T.haycroftlaw18_scene (0, 0)) :: ownS T.ptr_inplace_Writer 1 wv ((x).map ManM.wP) :: ownS T.ptr_inplace_Reader 1 rv ((x).map ManM.rP) :: ownS T.ptr_haycroftref18_Work 1 mv ((x).map ManM.mP) :: bigH (manH b) (x)
-- MACRO MAN(x) = ownS T.uint64 1 (x).u (ints .u64 (x).l) :: pt (x).mb (.cells (wkC (x).kk (x).ul (x).ug).toArray T.haycroftref18_Work (0, 0)) :: ownS T.uint64 1 (x).ul (ints .u64 (x).kk.l) :: ownS T.uint64 1 (x).ug (ints .u64 (x).kk.got)
theorem stC0_P18u {goal next : Prop} (k : next) (hs : Hid next → goal := by (intro k; (first | (refine gC F.inplace_Reader_Move ?_; refine p_call rfl rfl (inplace_Reader_Move_nil h) ?_) | (refine gC F.inplace_Writer_Move ?_; refine p_call rfl rfl (inplace_Writer_Move_nil h) ?_) | fail); exact k.out)) : goal := hs ⟨k⟩
section
variable {S : SP} {w : World} {G : List HProp}

theorem man_open {b : Nat} {x : ManM} (h : Sat S w (manH b x :: G)) : Sat S w (ManM.own b x :: ownS T.uint64 1 (x).u (ints .u64 (x).l) :: pt (x).mb (.cells (wkC (x).kk (x).ul (x).ug).toArray T.haycroftref18_Work (0, 0)) :: ownS T.uint64 1 (x).ul (ints .u64 (x).kk.l) :: ownS T.uint64 1 (x).ug (ints .u64 (x).kk.got) :: G) := by
  have h1 := Sat_sep.1 h
  have h2 := Sat_sep.1 (h1.pick (.there .here))
  have h3 := Sat_sep.1 (h2.pick (.there .here))
  have h4 := Sat_sep.1 (h3.pick (.there .here))
  exact h4.sub (.cons (by repeat first | exact .here | apply Has.there) (.cons (by repeat first | exact .here | apply Has.there) (.cons (by repeat first | exact .here | apply Has.there) (.cons (by repeat first | exact .here | apply Has.there) (.cons (by repeat first | exact .here | apply Has.there) (by repeat first | exact .refl _ | apply Sub.skip))))))
theorem man_shut {b : Nat} {x : ManM} (h : Sat S w (ManM.own b x :: ownS T.uint64 1 (x).u (ints .u64 (x).l) :: pt (x).mb (.cells (wkC (x).kk (x).ul (x).ug).toArray T.haycroftref18_Work (0, 0)) :: ownS T.uint64 1 (x).ul (ints .u64 (x).kk.l) :: ownS T.uint64 1 (x).ug (ints .u64 (x).kk.got) :: G)) : Sat S w (manH b x :: G) := by
  have h4 : Sat S w (ownS T.uint64 1 x.ul (ints .u64 x.kk.l) :: ownS T.uint64 1 x.ug (ints .u64 x.kk.got) :: ManM.own b x :: ownS T.uint64 1 x.u (ints .u64 x.l) :: pt x.mb (.cells (wkC x.kk x.ul x.ug).toArray T.haycroftref18_Work (0, 0)) :: G) := h.pm5
  have h3 : Sat S w (pt x.mb (.cells (wkC x.kk x.ul x.ug).toArray T.haycroftref18_Work (0, 0)) :: sep (ownS T.uint64 1 x.ul (ints .u64 x.kk.l)) (ownS T.uint64 1 x.ug (ints .u64 x.kk.got)) :: ManM.own b x :: ownS T.uint64 1 x.u (ints .u64 x.l) :: G) := (Sat_sep.2 h4).sub (.cons (by repeat first | exact .here | apply Has.there) (.cons (by repeat first | exact .here | apply Has.there) (.cons (by repeat first | exact .here | apply Has.there) (.cons (by repeat first | exact .here | apply Has.there) (by repeat first | exact .refl _ | apply Sub.skip)))))
  have h2 : Sat S w (ownS T.uint64 1 x.u (ints .u64 x.l) :: sep (pt x.mb (.cells (wkC x.kk x.ul x.ug).toArray T.haycroftref18_Work (0, 0))) (sep (ownS T.uint64 1 x.ul (ints .u64 x.kk.l)) (ownS T.uint64 1 x.ug (ints .u64 x.kk.got))) :: ManM.own b x :: G) := (Sat_sep.2 h3).sub (.cons (by repeat first | exact .here | apply Has.there) (.cons (by repeat first | exact .here | apply Has.there) (.cons (by repeat first | exact .here | apply Has.there) (by repeat first | exact .refl _ | apply Sub.skip))))
  have h1 : Sat S w (ManM.own b x :: sep (ownS T.uint64 1 x.u (ints .u64 x.l)) (sep (pt x.mb (.cells (wkC x.kk x.ul x.ug).toArray T.haycroftref18_Work (0, 0))) (sep (ownS T.uint64 1 x.ul (ints .u64 x.kk.l)) (ownS T.uint64 1 x.ug (ints .u64 x.kk.got)))) :: G) := (Sat_sep.2 h2).sub (.cons (by repeat first | exact .here | apply Has.there) (.cons (by repeat first | exact .here | apply Has.there) (by repeat first | exact .refl _ | apply Sub.skip)))
  exact Sat_sep.2 h1
/-- What a move leaves as it was. -/
structure Kept (x x' : ManM) : Prop where
  rd : x'.rd = x.rd
  rb : x'.rb = x.rb
  mb : x'.mb = x.mb
  kk : x'.kk = x.kk
  ul : x'.ul = x.ul
  ug : x'.ug = x.ug
theorem kept_maps {xs : List ManM} {i : Nat} {x x' : ManM} (hx : xs[i]? = some x) (hs : Kept x x') : (xs.set i x').map ManM.wP = xs.map ManM.wP ∧ (xs.set i x').map ManM.rP = xs.map ManM.rP ∧ (xs.set i x').map ManM.mP = xs.map ManM.mP :=
  ⟨map_set_same hx (by unfold ManM.wP; rw [hs.rd, hs.rb]), map_set_same hx (by unfold ManM.rP; rw [hs.rd, hs.rb]), map_set_same hx (by unfold ManM.mP; rw [hs.mb])⟩

set_option maxHeartbeats 8000000 in
theorem law18_scene_move_spec {b c d sx cb n i : Nat} {bx : BufM} {wv rv mv : Value} {xs : List ManM} {x : ManM} {m : CelM} (hx : xs[i]? = some x) (hi2 : i ≤ 1000) (hman : Man x m n) (hp : OnPage bx m n) (h : Sat S w (pt sx (.cells #[.pointer (some ⟨b, 0, none⟩), .pointer (some ⟨cb, 0, none⟩), wv, rv, mv] T.haycroftlaw18_scene (0, 0)) :: ownS T.ptr_inplace_Writer 1 wv ((xs).map ManM.wP) :: ownS T.ptr_inplace_Reader 1 rv ((xs).map ManM.rP) :: ownS T.ptr_haycroftref18_Work 1 mv ((xs).map ManM.mP) :: bigH (manH b) (xs) :: pt b (.cells (bufC (bx) c d) T.pages_Buffer (0, 0)) :: isRow c (bx).wr :: isRow d (bx).hr :: G)) :
    Ret Try.prog F.law18_scene_move #[.pointer (some ⟨sx, 0, none⟩), .int .i64 i] w (fun v w' => v = .tuple #[.int .i64 (x.k.move m).1, .int .i64 0] ∧ ∃ x' bx', x'.k = (x.k.move m).2.1 ∧ Kept x x' ∧ Man x' (x.k.move m).2.2 n ∧ OnPage bx' (x.k.move m).2.2 n ∧ Sat S w' (pt sx (.cells #[.pointer (some ⟨b, 0, none⟩), .pointer (some ⟨cb, 0, none⟩), wv, rv, mv] T.haycroftlaw18_scene (0, 0)) :: ownS T.ptr_inplace_Writer 1 wv ((xs.set i x').map ManM.wP) :: ownS T.ptr_inplace_Reader 1 rv ((xs.set i x').map ManM.rP) :: ownS T.ptr_haycroftref18_Work 1 mv ((xs.set i x').map ManM.mP) :: bigH (manH b) (xs.set i x') :: pt b (.cells (bufC (bx') c d) T.pages_Buffer (0, 0)) :: isRow c (bx').wr :: isRow d (bx').hr :: G)) := by
  have hil : i < xs.length := (List.getElem?_eq_some_iff.1 hx).1
  obtain ⟨wa, wl, wc, rfl, hwl, _⟩ := ownS_slice h (.there .here)
  obtain ⟨ra, rl, rc, rfl, hrl, _⟩ := ownS_slice h (.there (.there .here))
  obtain ⟨ma, ml, mc, rfl, hml, _⟩ := ownS_slice h (.there (.there (.there .here)))
  rw [List.length_map, Nat.mul_one] at hwl hrl hml
  obtain ⟨wa, rfl⟩ := ownS_addr (E := T.ptr_inplace_Writer) h (.there .here) (by omega)
  obtain ⟨ra, rfl⟩ := ownS_addr (E := T.ptr_inplace_Reader) h (.there (.there .here)) (by omega)
  obtain ⟨ma, rfl⟩ := ownS_addr (E := T.ptr_haycroftref18_Work) h (.there (.there (.there .here))) (by omega)
  have hmi : (xs.map ManM.mP)[i]? = some (.pointer (some ⟨x.mb, 0, none⟩)) := by rw [List.getElem?_map, hx]; rfl
  have h := man_open (bigH_take hx (h.pick (.there (.there (.there (.there .here))))))
  have hkr := hman.kkr
  have hmv := move_reads x.k m
  refine ret_of is_law18_scene_move rfl ?_
  cases hrd : x.rd
  · have hwi : (xs.map ManM.wP)[i]? = some (.pointer (some ⟨x.rb, 0, none⟩)) := by rw [List.getElem?_map, hx]; show some x.wP = _; unfold ManM.wP; rw [hrd]; rfl
    have hrw := hman.wr hrd
    rw [hrd] at hkr
    have ewk : wkC x.kk x.ul x.ug = [.bool false, .bool x.kk.adds, .int .u64 x.kk.n, x.ul, .int .i64 x.kk.mv, .bool x.kk.done, .int .u64 x.kk.seen, x.ug] := by unfold wkC; rw [hkr]
    rw [ewk] at h
    rw [show ManM.own b x = pt x.rb (.cells (wrC b x.y x.u).toArray T.inplace_Writer (0, 0)) by unfold ManM.own; rw [hrd]; rfl] at h
    repeat' (first | (refine gL ?_; refine p_val rfl (g_ldV (i := i) rfl (ownS_rd h (by repeat first | exact .here | apply Has.there)) (by omega) hmi) ?_) | (refine gL ?_; refine p_val rfl (g_ldV (i := i) rfl (ownS_rd h (by repeat first | exact .here | apply Has.there)) (by omega) hwi) ?_) | (refine gC F.inplace_Writer_Move ?_; refine p_call rfl rfl (inplace_Writer_Move_rel hrw hp (h.rf5)) ?_; rintro _ w ⟨rfl, bx', y', l', hr', hp', h⟩) | refine stP ?_ | (refine stC0_P18u ?_; rintro _ w ⟨rfl, h⟩) | fail)
    rw [← ewk] at h
    have hk : Kept x { x with y := y', l := l', k := (x.k.move m).2.1 } := ⟨rfl, rfl, rfl, rfl, rfl, rfl⟩
    obtain ⟨e1, e2, e3⟩ := kept_maps hx hk
    have hmn : Man { x with y := y', l := l', k := (x.k.move m).2.1 } (x.k.move m).2.2 n := ⟨hmv.1.trans hman.kr, hman.kkr, hman.kkn.trans hmv.2.2.symm, fun he => absurd he (by simp [hrd]), fun _ => hr'⟩
    refine x_ret' is_law18_scene_move rfl ⟨rfl, _, bx', rfl, hk, hmn, hp', ?_⟩
    rw [e1, e2, e3]
    have h : Sat S w (ManM.own b { x with y := y', l := l', k := (x.k.move m).2.1 } :: ownS T.uint64 1 (({ x with y := y', l := l', k := (x.k.move m).2.1 } : ManM)).u (ints .u64 (({ x with y := y', l := l', k := (x.k.move m).2.1 } : ManM)).l) :: pt (({ x with y := y', l := l', k := (x.k.move m).2.1 } : ManM)).mb (.cells (wkC (({ x with y := y', l := l', k := (x.k.move m).2.1 } : ManM)).kk (({ x with y := y', l := l', k := (x.k.move m).2.1 } : ManM)).ul (({ x with y := y', l := l', k := (x.k.move m).2.1 } : ManM)).ug).toArray T.haycroftref18_Work (0, 0)) :: ownS T.uint64 1 (({ x with y := y', l := l', k := (x.k.move m).2.1 } : ManM)).ul (ints .u64 (({ x with y := y', l := l', k := (x.k.move m).2.1 } : ManM)).kk.l) :: ownS T.uint64 1 (({ x with y := y', l := l', k := (x.k.move m).2.1 } : ManM)).ug (ints .u64 (({ x with y := y', l := l', k := (x.k.move m).2.1 } : ManM)).kk.got) :: bigH (manH b) (xs.eraseIdx i) :: pt sx (.cells #[.pointer (some ⟨b, 0, none⟩), .pointer (some ⟨cb, 0, none⟩), .slice (some ⟨wa, 0, none⟩) wl wc, .slice (some ⟨ra, 0, none⟩) rl rc, .slice (some ⟨ma, 0, none⟩) ml mc] T.haycroftlaw18_scene (0, 0)) :: ownS T.ptr_inplace_Writer 1 (.slice (some ⟨wa, 0, none⟩) wl wc) (xs.map ManM.wP) :: ownS T.ptr_inplace_Reader 1 (.slice (some ⟨ra, 0, none⟩) rl rc) (xs.map ManM.rP) :: ownS T.ptr_haycroftref18_Work 1 (.slice (some ⟨ma, 0, none⟩) ml mc) (xs.map ManM.mP) :: pt b (.cells (bufC (bx') c d) T.pages_Buffer (0, 0)) :: isRow c (bx').wr :: isRow d (bx').hr :: G) := by
      rw [show ManM.own b { x with y := y', l := l', k := (x.k.move m).2.1 } = pt x.rb (.cells (wrC b y' x.u).toArray T.inplace_Writer (0, 0)) by unfold ManM.own; rw [hrd]; rfl]
      exact h.sub (.cons (by repeat first | exact .here | apply Has.there) (.cons (by repeat first | exact .here | apply Has.there) (.cons (by repeat first | exact .here | apply Has.there) (.cons (by repeat first | exact .here | apply Has.there) (.cons (by repeat first | exact .here | apply Has.there) (.cons (by repeat first | exact .here | apply Has.there) (.cons (by repeat first | exact .here | apply Has.there) (.cons (by repeat first | exact .here | apply Has.there) (.cons (by repeat first | exact .here | apply Has.there) (.cons (by repeat first | exact .here | apply Has.there) (.cons (by repeat first | exact .here | apply Has.there) (.cons (by repeat first | exact .here | apply Has.there) (.cons (by repeat first | exact .here | apply Has.there) (by repeat first | exact .refl _ | apply Sub.skip))))))))))))))
    have h := bigH_put hil (man_shut h)
    exact h.pm8
  · have hri : (xs.map ManM.rP)[i]? = some (.pointer (some ⟨x.rb, 0, none⟩)) := by rw [List.getElem?_map, hx]; show some x.rP = _; unfold ManM.rP; rw [hrd]; rfl
    have hrr := hman.rd hrd
    rw [hrd] at hkr
    have ewk : wkC x.kk x.ul x.ug = [.bool true, .bool x.kk.adds, .int .u64 x.kk.n, x.ul, .int .i64 x.kk.mv, .bool x.kk.done, .int .u64 x.kk.seen, x.ug] := by unfold wkC; rw [hkr]
    rw [ewk] at h
    rw [show ManM.own b x = pt x.rb (.cells (rdC b x.z x.u).toArray T.inplace_Reader (0, 0)) by unfold ManM.own; rw [hrd]; rfl] at h
    repeat' (first | (refine gL ?_; refine p_val rfl (g_ldV (i := i) rfl (ownS_rd h (by repeat first | exact .here | apply Has.there)) (by omega) hmi) ?_) | (refine gL ?_; refine p_val rfl (g_ldV (i := i) rfl (ownS_rd h (by repeat first | exact .here | apply Has.there)) (by omega) hri) ?_) | (refine gC F.inplace_Reader_Move ?_; refine p_call rfl rfl (inplace_Reader_Move_rel hrr hp (h.rf5)) ?_; rintro _ w ⟨rfl, z', u', l', hr', hmm, h⟩) | refine stP ?_ | (refine stC0_P18u ?_; rintro _ w ⟨rfl, h⟩) | fail)
    rw [← ewk] at h
    have hk : Kept x { x with z := z', u := u', l := l', k := (x.k.move m).2.1 } := ⟨rfl, rfl, rfl, rfl, rfl, rfl⟩
    obtain ⟨e1, e2, e3⟩ := kept_maps hx hk
    have hmn : Man { x with z := z', u := u', l := l', k := (x.k.move m).2.1 } (x.k.move m).2.2 n := ⟨hmv.1.trans hman.kr, hman.kkr, hman.kkn.trans hmv.2.2.symm, fun _ => by rw [hmm]; exact hr', fun he => absurd he (by simp [hrd])⟩
    refine x_ret' is_law18_scene_move rfl ⟨rfl, _, bx, rfl, hk, hmn, by rw [hmm]; exact hp, ?_⟩
    rw [e1, e2, e3]
    have h : Sat S w (ManM.own b { x with z := z', u := u', l := l', k := (x.k.move m).2.1 } :: ownS T.uint64 1 (({ x with z := z', u := u', l := l', k := (x.k.move m).2.1 } : ManM)).u (ints .u64 (({ x with z := z', u := u', l := l', k := (x.k.move m).2.1 } : ManM)).l) :: pt (({ x with z := z', u := u', l := l', k := (x.k.move m).2.1 } : ManM)).mb (.cells (wkC (({ x with z := z', u := u', l := l', k := (x.k.move m).2.1 } : ManM)).kk (({ x with z := z', u := u', l := l', k := (x.k.move m).2.1 } : ManM)).ul (({ x with z := z', u := u', l := l', k := (x.k.move m).2.1 } : ManM)).ug).toArray T.haycroftref18_Work (0, 0)) :: ownS T.uint64 1 (({ x with z := z', u := u', l := l', k := (x.k.move m).2.1 } : ManM)).ul (ints .u64 (({ x with z := z', u := u', l := l', k := (x.k.move m).2.1 } : ManM)).kk.l) :: ownS T.uint64 1 (({ x with z := z', u := u', l := l', k := (x.k.move m).2.1 } : ManM)).ug (ints .u64 (({ x with z := z', u := u', l := l', k := (x.k.move m).2.1 } : ManM)).kk.got) :: bigH (manH b) (xs.eraseIdx i) :: pt sx (.cells #[.pointer (some ⟨b, 0, none⟩), .pointer (some ⟨cb, 0, none⟩), .slice (some ⟨wa, 0, none⟩) wl wc, .slice (some ⟨ra, 0, none⟩) rl rc, .slice (some ⟨ma, 0, none⟩) ml mc] T.haycroftlaw18_scene (0, 0)) :: ownS T.ptr_inplace_Writer 1 (.slice (some ⟨wa, 0, none⟩) wl wc) (xs.map ManM.wP) :: ownS T.ptr_inplace_Reader 1 (.slice (some ⟨ra, 0, none⟩) rl rc) (xs.map ManM.rP) :: ownS T.ptr_haycroftref18_Work 1 (.slice (some ⟨ma, 0, none⟩) ml mc) (xs.map ManM.mP) :: pt b (.cells (bufC (bx) c d) T.pages_Buffer (0, 0)) :: isRow c (bx).wr :: isRow d (bx).hr :: G) := by
      rw [show ManM.own b { x with z := z', u := u', l := l', k := (x.k.move m).2.1 } = pt x.rb (.cells (rdC b z' u').toArray T.inplace_Reader (0, 0)) by unfold ManM.own; rw [hrd]; rfl]
      exact h.sub (.cons (by repeat first | exact .here | apply Has.there) (.cons (by repeat first | exact .here | apply Has.there) (.cons (by repeat first | exact .here | apply Has.there) (.cons (by repeat first | exact .here | apply Has.there) (.cons (by repeat first | exact .here | apply Has.there) (.cons (by repeat first | exact .here | apply Has.there) (.cons (by repeat first | exact .here | apply Has.there) (.cons (by repeat first | exact .here | apply Has.there) (.cons (by repeat first | exact .here | apply Has.there) (.cons (by repeat first | exact .here | apply Has.there) (.cons (by repeat first | exact .here | apply Has.there) (.cons (by repeat first | exact .here | apply Has.there) (.cons (by repeat first | exact .here | apply Has.there) (by repeat first | exact .refl _ | apply Sub.skip))))))))))))))
    have h := bigH_put hil (man_shut h)
    exact h.pm8
end
end Go.Proofs.Ytjoicobfjpaepaa
