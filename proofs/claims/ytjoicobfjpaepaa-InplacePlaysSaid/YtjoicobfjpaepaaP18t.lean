/- Layer 18 (inplace): a reader's move is the document's. -/
import Derived.Test.YtjoicobfjpaepaaP18s
namespace Go.Proofs.Ytjoicobfjpaepaa
open Go Go.HX
set_option maxRecDepth 4000
set_option maxHeartbeats 1000000
section
variable {S : SP} {w : World} {G : List HProp}

set_option maxHeartbeats 4000000 in
theorem inplace_Reader_Move_rel {b c d r n : Nat} {x : BufM} {y : RdM} {u : Value} {l : List Int} {k : WkM} {m : CelM} (hr : IsRd y l k m n) (hp : OnPage x m n) (h : Sat S w (pt r (.cells (rdC b y u).toArray T.inplace_Reader (0, 0)) :: ownS T.uint64 1 u (ints .u64 l) :: pt b (.cells (bufC (x) c d) T.pages_Buffer (0, 0)) :: isRow c (x).wr :: isRow d (x).hr :: G)) :
    Ret Try.prog F.inplace_Reader_Move #[.pointer (some ⟨r, 0, none⟩)] w (fun v w' => v = .tuple #[.int .i64 (k.move m).1, .int .i64 0] ∧ ∃ y' u' l', IsRd y' l' (k.move m).2.1 m n ∧ (k.move m).2.2 = m ∧ Sat S w' (pt r (.cells (rdC b y' u').toArray T.inplace_Reader (0, 0)) :: ownS T.uint64 1 u' (ints .u64 l') :: pt b (.cells (bufC (x) c d) T.pages_Buffer (0, 0)) :: isRow c (x).wr :: isRow d (x).hr :: G)) := by
  have hok := hp.ok
  have hle := hp.le
  have hi2 : x.isIn y.lock := by rw [hr.lock]; exact hp.isIn (by omega) (by omega)
  have hw2 : x.wd y.lock = lockW m := by rw [hr.lock]; exact hp.lock
  have l0 : 0 ≤ y.lock := by rw [hr.lock]; decide
  have l1 : y.lock ≤ 18446744073709551615 := by rw [hr.lock]; decide
  have hlw := lockW_bnd hp.cnt
  have hcnt := hp.cnt
  obtain ⟨va, vl, vc, rfl, hvl, _⟩ := ownS_slice h (.there .here)
  rw [ints_length, Nat.mul_one] at hvl
  unfold WkM.move
  by_cases hd : k.done = true
  · rw [if_pos hd]
    refine Ret.mono (inplace_Reader_Move_done (hr.stD hd).1 h) ?_
    rintro v w ⟨rfl, h⟩
    exact ⟨rfl, y, _, l, hr, rfl, h⟩
  have hd' : k.done = false := by simpa using hd
  rw [if_neg hd, if_pos hr.rds]
  unfold WkM.rd
  by_cases hm : k.mv = 0
  · have hst := hr.st0 hd' hm
    rw [if_pos hm]
    by_cases hlk : m.locked = true
    · rw [if_pos hlk]
      refine inplace_Reader_Move_look hst (fun w h => ?_) h
      refine Ret.mono (inplace_Reader_look_busy l0 l1 hok hi2 (by rw [hw2]; unfold lockW; rw [if_pos hlk]; omega) (h.rf4)) ?_
      rintro v w ⟨rfl, h⟩
      exact ⟨3, 0, rfl, rfl, y, _, l, hr, rfl, h.pm5⟩
    · rw [if_neg hlk]
      refine inplace_Reader_Move_look hst (fun w h => ?_) h
      refine Ret.mono (inplace_Reader_look_sees l0 l1 hok hi2 (by rw [hw2]; unfold lockW; rw [if_neg hlk]; omega) (h.rf4)) ?_
      rintro v w ⟨rfl, h⟩
      have h := ownS_none (E := T.uint64) (n := 1) h
      refine ⟨1, 0, rfl, rfl, _, _, [], ?_, rfl, h.pm5⟩
      refine ⟨hr.lock, hr.val, hr.words, hr.num, hr.rds, hr.len, fun i => by simp, fun he => absurd he hd, fun _ => hr.empty hd', fun _ he => absurd he (by simp), fun _ _ => ?_⟩
      refine ⟨rfl, rfl, rfl, Nat.zero_le _, ?_, hcnt.1, hcnt.2, fun i _ h2 => absurd h2 (by simp)⟩
      show x.wd y.lock = m.count
      rw [hw2]; unfold lockW; rw [if_neg hlk]; omega
  rw [if_neg hm]
  have h1 : 1 ≤ k.mv := by omega
  obtain ⟨hst, rfl, hgl, hgm, hse, hs0, hs1, ht⟩ := hr.st1 hd' h1
  by_cases hlt : k.mv - 1 < m.l.length
  · rw [if_pos hlt]
    have hi5 : x.isIn (y.val + vl) := by rw [hr.val]; exact hp.isIn (by omega) (by omega)
    have hw5 : x.wd (y.val + vl) = m.l.getD (k.mv - 1) 0 := by
      rw [hr.val, show vl = k.mv - 1 by omega]
      exact hp.word hlt
    refine inplace_Reader_Move_read hst (by rw [hr.words]; omega) (fun w h => ?_) h
    refine Ret.mono (inplace_Reader_read_spec (l := k.got) (by rw [hr.val]; decide) (by rw [hr.val]; omega) (by omega) hok hi5 (h.rf5)) ?_
    rintro v w ⟨rfl, u', h⟩
    rw [hw5] at h
    refine ⟨1, 0, rfl, rfl, _, _, _, ?_, rfl, h.pm5⟩
    refine ⟨hr.lock, hr.val, hr.words, hr.num, hr.rds, hr.len, fun i => ?_, fun he => absurd he hd, fun _ => hr.empty hd', fun _ he => absurd he (by simp), fun _ _ => ?_⟩
    · simp only
      rw [getD_push]
      split
      · exact hp.bnd _
      · exact hr.bnd i
    · refine ⟨hst, rfl, by simp only [List.length_append, List.length_singleton]; omega, by simp only; omega, hse, hs0, hs1, ?_⟩
      have := tail_push ht hp.tail (by omega)
      rw [hgl] at this
      exact this
  rw [if_neg hlt]
  by_cases hch : m.locked = true ∨ m.count ≠ k.seen
  · rw [if_pos hch]
    refine inplace_Reader_Move_check hst (by rw [hr.words]; omega) (fun w h => ?_) h
    refine Ret.mono (inplace_Reader_check_busy l0 l1 hok hi2 ?_ (h.rf4)) ?_
    · rw [hw2, hse]; unfold lockW
      split
      · omega
      · rename_i hn
        have := hch.resolve_left hn
        omega
    rintro v w ⟨rfl, h⟩
    refine ⟨3, 0, rfl, rfl, _, _, _, ?_, rfl, h.pm5⟩
    exact ⟨hr.lock, hr.val, hr.words, hr.num, hr.rds, hr.len, hr.bnd, fun he => absurd he hd, fun _ => hr.empty hd', fun _ _ => rfl, fun _ he => absurd he (by simp)⟩
  · rw [if_neg hch]
    have hn1 : ¬ m.locked = true := fun e => hch (.inl e)
    have hn2 : m.count = k.seen := Decidable.byContradiction fun e => hch (.inr e)
    have hgn : k.got.length = (n + 7) / 8 := by omega
    refine inplace_Reader_Move_check hst (by rw [hr.words]; omega) (fun w h => ?_) h
    refine Ret.mono (inplace_Reader_check_done (k := n) (l := k.got) l0 l1 hok hi2 ?_ hr.num hgn hr.bnd (by omega) ht (h.rf5)) ?_
    · rw [hw2, hse]; unfold lockW; rw [if_neg hn1]; omega
    rintro v w ⟨rfl, h⟩
    refine ⟨2, 0, rfl, rfl, _, _, _, ?_, rfl, h.pm5⟩
    exact ⟨hr.lock, hr.val, hr.words, hr.num, hr.rds, hr.len, hr.bnd, fun _ => ⟨rfl, rfl, hgn, ht⟩, fun he => absurd he (by simp), fun he => absurd he (by simp), fun he => absurd he (by simp)⟩
end
end Go.Proofs.Ytjoicobfjpaepaa
