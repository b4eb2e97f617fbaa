/- Layer 18 (inplace): a writer's move is the document's. -/
import Derived.Test.YtjoicobfjpaepaaL18
namespace Go.Proofs.Ytjoicobfjpaepaa
open Go Go.HX
set_option maxRecDepth 4000
set_option maxHeartbeats 1000000
section
variable {S : SP} {w : World} {G : List HProp}

set_option maxHeartbeats 4000000 in
theorem inplace_Writer_Move_rel {b c d r n : Nat} {x : BufM} {y : WrM} {u : Value} {l : List Int} {k : WkM} {m : CelM} (hr : IsWr y l k m n) (hp : OnPage x m n) (h : Sat S w (pt r (.cells (wrC b y u).toArray T.inplace_Writer (0, 0)) :: ownS T.uint64 1 u (ints .u64 l) :: pt b (.cells (bufC (x) c d) T.pages_Buffer (0, 0)) :: isRow c (x).wr :: isRow d (x).hr :: G)) :
    Ret Try.prog F.inplace_Writer_Move #[.pointer (some ⟨r, 0, none⟩)] w (fun v w' => v = .tuple #[.int .i64 (k.move m).1, .int .i64 0] ∧ ∃ x' y' l', IsWr y' l' (k.move m).2.1 (k.move m).2.2 n ∧ OnPage x' (k.move m).2.2 n ∧ Sat S w' (pt r (.cells (wrC b y' u).toArray T.inplace_Writer (0, 0)) :: ownS T.uint64 1 u (ints .u64 l') :: pt b (.cells (bufC (x') c d) T.pages_Buffer (0, 0)) :: isRow c (x').wr :: isRow d (x').hr :: G)) := by
  have hok := hp.ok
  have hle := hp.le
  have hi2 : x.isIn y.lock := by rw [hr.lock]; exact hp.isIn (by omega) (by omega)
  have hw2 : x.wd y.lock = lockW m := by rw [hr.lock]; exact hp.lock
  have hc2 : x.cell y.lock = 2 := by rw [hr.lock]; exact hp.cell (by omega) (by omega)
  have l0 : 0 ≤ y.lock := by rw [hr.lock]; decide
  have l1 : y.lock ≤ 18446744073709551615 := by rw [hr.lock]; decide
  have hlw := lockW_bnd hp.cnt
  have hxl := hp.len
  unfold WkM.move
  by_cases hd : k.done = true
  · rw [if_pos hd]
    refine Ret.mono (inplace_Writer_Move_done (hr.stD hd) h) ?_
    rintro v w ⟨rfl, h⟩
    exact ⟨rfl, x, y, l, hr, hp, h⟩
  have hd' : k.done = false := by simpa using hd
  rw [if_neg hd, if_neg (by rw [hr.rds]; decide)]
  unfold WkM.wr
  by_cases hm : k.mv = 0
  · obtain ⟨hst, hat⟩ := hr.st0 hd' hm
    rw [if_pos hm]
    by_cases hlk : m.locked = true
    · rw [if_pos hlk]
      refine inplace_Writer_Move_take hst (fun w h => ?_) h
      refine Ret.mono (inplace_Writer_take_busy l0 l1 hok hi2 (by rw [hw2, lock_held hp.cnt hlk]) (h.rf4)) ?_
      rintro v w ⟨rfl, h⟩
      exact ⟨3, 0, rfl, rfl, x, y, l, hr, hp, h.pm5⟩
    · have hlk' : m.locked = false := by simpa using hlk
      rw [if_neg hlk]
      have hlf := lock_free hp.cnt hlk'
      refine inplace_Writer_Move_take hst (fun w h => ?_) h
      refine Ret.mono (inplace_Writer_take_wins l0 l1 hok hi2 (by rw [hw2, hlf]) (by rw [hw2, hlf]; exact lockW_bnd (c := { m with locked := true }) hp.cnt) (h.rf4)) ?_
      rintro v w ⟨rfl, h⟩
      rw [hw2, hlf] at h
      refine ⟨1, 0, rfl, rfl, _, _, l, ?_, ?_, h.pm5⟩
      · refine ⟨hr.lock, hr.val, hr.words, hr.add, hr.num, hr.rds, hr.len, hr.one, hr.nb, hr.bnd, hr.tail, fun hs => hr.same (hs.imp id (fun h2 => absurd h2 (by simp only; omega))), fun he => absurd he hd, fun _ he => absurd he (by simp), fun _ _ => ⟨rfl, rfl⟩, fun _ _ ha => ⟨?_, hat⟩, fun _ _ ha => ?_⟩
        · have ha : k.adds = true := ha
          unfold WrM.next
          simp [hr.add, ha]
        · have ha : k.adds = false := ha.resolve_right (by simp only; omega)
          unfold WrM.next WkM.at_
          simp only [hr.add, ha, hat, hr.words, Bool.false_eq_true, if_false, and_self, if_true, Nat.sub_self, true_and]
          refine ⟨rfl, Nat.zero_le _, ?_⟩
          by_cases h0 : 0 < m.l.length
          · rw [if_neg (by omega), if_pos h0]
          · rw [if_pos (by omega), if_neg h0]
      · refine hp.relock true m.count hp.cnt rfl rfl rfl ?_
        show (x.wr.cas (x.cell y.lock) (lockW m) _).ws = _
        rw [hc2]
        unfold RowM.cas
        rw [if_pos (show x.wr.there 2 from ⟨by omega, by omega⟩), if_pos (show x.wr.ws.getD (2 : Int).toNat 0 = lockW m from hp.lk)]
        rfl
  rw [if_neg hm]
  have h1 : 1 ≤ k.mv := by omega
  obtain ⟨hlk, hhd⟩ := hr.held hd' h1
  by_cases ha : k.adds = true ∧ k.mv = 1
  · rw [if_pos ha]
    obtain ⟨hst, hat⟩ := hr.st1 hd' ha.2 ha.1
    obtain ⟨hl1, hn8⟩ := hr.one ha.1
    have hlen := hr.len
    obtain ⟨va, vl, vc, rfl, _, _⟩ := ownS_slice h (.there .here)
    have hi5 : x.isIn y.val := by rw [hr.val]; exact hp.isIn (by omega) (by omega)
    have hw5 : x.wd y.val = m.l.getD 0 0 := by
      rw [hr.val]
      exact hp.word (i := 0) (by omega)
    refine inplace_Writer_Move_read hst (fun w h => ?_) h
    refine Ret.mono (inplace_Writer_read_spec (l := l) (by rw [hr.val]; decide) (by rw [hr.val]; decide) hok hi5 (by omega) (h.rf5)) ?_
    rintro v w ⟨rfl, h⟩
    rw [hw5] at h
    have he : l.set 0 ((m.l.getD 0 0 + y.n) % 18446744073709551616) = [(m.l.getD 0 0 + k.n) % 18446744073709551616] := by
      rw [hr.num]
      match l, (show l.length = 1 by omega) with
      | [_], _ => rfl
    rw [he] at h
    refine ⟨1, 0, rfl, rfl, x, _, _, ?_, hp, h.pm5⟩
    have hmb : 0 ≤ (m.l.getD 0 0 + k.n) % 18446744073709551616 ∧ (m.l.getD 0 0 + k.n) % 18446744073709551616 ≤ 18446744073709551615 := by omega
    refine ⟨hr.lock, hr.val, hr.words, hr.add, hr.num, hr.rds, hl1.symm, hr.one, hr.nb, fun i => ?_, tail_eight _ (by rw [hn8]; simp), fun _ => rfl, fun he => absurd he hd, fun _ he => absurd he (by simp), fun _ _ => ⟨hlk, hhd⟩, fun _ he => absurd he (by simp), fun _ _ _ => ?_⟩
    · rcases i with _ | i
      · exact hmb
      · simp
    · unfold WrM.next WkM.at_
      simp only [hr.add, ha.1, hat, hr.words, hl1]
      simp
  rw [if_neg ha]
  have hs2 : k.adds = false ∨ 2 ≤ k.mv := by
    by_cases hb : k.adds = true
    · right
      have : ¬ k.mv = 1 := fun e => ha ⟨hb, e⟩
      omega
    · left; simpa using hb
  obtain ⟨hat, hatl, hst⟩ := hr.st2 hd' h1 hs2
  have hkl := hr.same hs2
  have hlen := hr.len
  by_cases hlt : k.at_ < k.l.length
  · rw [if_pos hlt]
    rw [← hkl] at hlt
    rw [if_pos (by omega)] at hst
    obtain ⟨va, vl, vc, rfl, _, _⟩ := ownS_slice h (.there .here)
    have hi5 : x.isIn (y.val + k.at_) := by rw [hr.val]; exact hp.isIn (by omega) (by omega)
    have hc5 : x.cell (y.val + k.at_) = ((5 + k.at_ : Nat) : Int) := by rw [hr.val, hp.cell (by omega) (by omega)]; omega
    refine inplace_Writer_Move_write hst (fun w h => ?_) h
    refine Ret.mono (inplace_Writer_write_spec (k := k.at_) (by rw [hr.val]; decide) (by rw [hr.val]; omega) hat hlt (by omega) (bnd_mem hr.bnd) hok hi5 (h.rf5)) ?_
    rintro v w ⟨rfl, h⟩
    refine ⟨1, 0, rfl, rfl, _, _, l, ?_, ?_, h.pm5⟩
    · have e1 : WkM.at_ { k with mv := k.mv + 1 } = k.at_ + 1 := by
        unfold WkM.at_
        simp only
        rcases hs2 with hb | hb
        · rw [hb]; simp; omega
        · split <;> omega
      refine ⟨hr.lock, hr.val, by rw [List.length_set]; exact hr.words, hr.add, hr.num, hr.rds, by rw [List.length_set]; exact hlen, fun hb => by rw [List.length_set]; exact hr.one hb, hr.nb, hr.bnd, hr.tail, fun _ => hkl, fun he => absurd he hd, fun _ he => absurd he (by simp), fun _ _ => ⟨hlk, hhd⟩, fun _ he => absurd he (by simp only; omega), fun _ _ _ => ?_⟩
      rw [e1]
      refine ⟨by simp only; omega, by rw [List.length_set]; omega, ?_⟩
      rw [List.length_set]
      unfold WrM.next
      simp only [hr.words]
      rw [if_neg (show ¬ ((2 : Int) = 1 ∧ y.add = false) by omega)]
      by_cases hz : k.at_ + 1 < m.l.length
      · rw [if_neg (by omega), if_pos hz]
      · rw [if_pos (by omega), if_neg hz]
    · rw [← hkl]
      refine hp.reword (by omega) hlen hr.tail hr.bnd rfl rfl ?_
      show (x.wr.store (x.cell (y.val + k.at_)) _).ws = _
      rw [hc5]
      unfold RowM.store
      rw [if_pos (by omega)]
      rfl
  · rw [if_neg hlt]
    rw [← hkl] at hlt
    rw [if_neg (by omega)] at hst
    have hul := unlock_held hp.cnt hlk
    refine inplace_Writer_Move_end hst (fun w h => ?_) h
    refine Ret.mono (inplace_Writer_end_spec l0 l1 (by rw [hhd]; exact hlw.1) (by rw [hhd]; exact hlw.2) hok hi2 (by rw [hhd, hul]) (by rw [hhd, hul]; exact lockW_bnd (c := { m with locked := false, count := (m.count + 1) % 4294967296 }) (by simp only; omega)) (h.rf4)) ?_
    rintro v w ⟨rfl, h⟩
    rw [hhd, hul] at h
    refine ⟨2, 0, rfl, rfl, _, _, l, ?_, ?_, h.pm5⟩
    · exact ⟨hr.lock, hr.val, hr.words, hr.add, hr.num, hr.rds, hlen, hr.one, hr.nb, hr.bnd, hr.tail, fun _ => hkl, fun _ => rfl, fun he => absurd he (by simp), fun he => absurd he (by simp), fun he => absurd he (by simp), fun he => absurd he (by simp)⟩
    · refine hp.relock false _ (by omega) rfl rfl rfl ?_
      show (x.wr.store (x.cell y.lock) _).ws = _
      rw [hc2]
      unfold RowM.store
      rw [if_pos (by omega)]
      rfl
end
end Go.Proofs.Ytjoicobfjpaepaa
