/- Layer 18 (inplace): the moves of a reader; a move is that of its state. -/
import Derived.Test.YtjoicobfjpaepaaHxS
import Derived.Test.YtjoicobfjpaepaaP18w
import Derived.Test.YtjoicobfjpaepaaP09o
namespace Go.Proofs.Ytjoicobfjpaepaa
open Go Go.HX
attribute [local irreducible] Ret XRun XOps XDr XOne Does Gives
set_option maxRecDepth 4000
set_option maxHeartbeats 1000000
theorem stC0_P18f {goal next : Prop} (k : next) (hs : Hid next → goal := by (intro k; (first | (refine gC F.inplace_Writer_read ?_; refine p_call rfl rfl (inplace_Writer_read_spec ?_ ?_ ?_ _ ?_ (h.rf5)) ?_; iterate 4 (first | assumption | omega | (simp only []; omega) | decide)) | (refine gC F.inplace_Writer_end ?_; refine p_call rfl rfl (inplace_Writer_end_spec ?_ ?_ ?_ ?_ ?_ _ ?_ ?_ (h.rf4)) ?_; iterate 7 (first | assumption | omega | (simp only []; omega) | decide)) | fail); exact k.out)) : goal := hs ⟨k⟩
theorem stC1_P18f {goal next : Prop} (k : next) (hs : Hid next → goal := by (intro k; (first | (refine gC F.inplace_Reader_read ?_; refine p_call rfl rfl (inplace_Reader_read_spec ?_ ?_ ?_ ?_ _ (h.rf5)) ?_; iterate 4 (first | assumption | omega | (simp only []; omega) | decide)) | fail); exact k.out)) : goal := hs ⟨k⟩
section
variable {S : SP} {w : World} {G : List HProp}

theorem inplace_Writer_Move_take {Q : Value → World → Prop} {b r : Nat} {y : WrM} {u : Value} (hst : y.st = 0) (hq : ∀ w, Sat S w (pt r (.cells (wrC b y u).toArray T.inplace_Writer (0, 0)) :: G) → Ret Try.prog F.inplace_Writer_take #[.pointer (some ⟨r, 0, none⟩)] w (fun v w' => ∃ p q : Int, v = .tuple #[.int .i64 p, .int .i64 q] ∧ Q v w')) (h : Sat S w (pt r (.cells (wrC b y u).toArray T.inplace_Writer (0, 0)) :: G)) :
    Ret Try.prog F.inplace_Writer_Move #[.pointer (some ⟨r, 0, none⟩)] w Q := by
  refine ret_of is_inplace_Writer_Move rfl ?_
  repeat' (first | (refine gC F.inplace_Writer_take ?_; refine p_call rfl rfl (hq _ (h.pm1)) ?_; rintro _ w ⟨p, q, rfl, hqq⟩) | refine stP ?_ | (refine stC0_P18f ?_; rintro _ w ⟨rfl, h⟩) | (refine p_cmp rfl rfl rfl rfl (fun hc => ?_) (fun hc => ?_) <;> simp only [cmpProp] at hc) | fail)
  exact x_ret' is_inplace_Writer_Move rfl hqq

theorem inplace_Writer_Move_read {Q : Value → World → Prop} {b r : Nat} {y : WrM} {u : Value} (hst : y.st = 1) (hq : ∀ w, Sat S w (pt r (.cells (wrC b y u).toArray T.inplace_Writer (0, 0)) :: G) → Ret Try.prog F.inplace_Writer_read #[.pointer (some ⟨r, 0, none⟩)] w (fun v w' => ∃ p q : Int, v = .tuple #[.int .i64 p, .int .i64 q] ∧ Q v w')) (h : Sat S w (pt r (.cells (wrC b y u).toArray T.inplace_Writer (0, 0)) :: G)) :
    Ret Try.prog F.inplace_Writer_Move #[.pointer (some ⟨r, 0, none⟩)] w Q := by
  refine ret_of is_inplace_Writer_Move rfl ?_
  repeat' (first | (refine gC F.inplace_Writer_read ?_; refine p_call rfl rfl (hq _ (h.pm1)) ?_; rintro _ w ⟨p, q, rfl, hqq⟩) | refine stP ?_ | (refine stC0_P18f ?_; rintro _ w ⟨rfl, h⟩) | (refine p_cmp rfl rfl rfl rfl (fun hc => ?_) (fun hc => ?_) <;> simp only [cmpProp] at hc) | fail)
  exact x_ret' is_inplace_Writer_Move rfl hqq

theorem inplace_Writer_Move_write {Q : Value → World → Prop} {b r : Nat} {y : WrM} {u : Value} (hst : y.st = 2) (hq : ∀ w, Sat S w (pt r (.cells (wrC b y u).toArray T.inplace_Writer (0, 0)) :: G) → Ret Try.prog F.inplace_Writer_write #[.pointer (some ⟨r, 0, none⟩)] w (fun v w' => ∃ p q : Int, v = .tuple #[.int .i64 p, .int .i64 q] ∧ Q v w')) (h : Sat S w (pt r (.cells (wrC b y u).toArray T.inplace_Writer (0, 0)) :: G)) :
    Ret Try.prog F.inplace_Writer_Move #[.pointer (some ⟨r, 0, none⟩)] w Q := by
  refine ret_of is_inplace_Writer_Move rfl ?_
  repeat' (first | (refine gC F.inplace_Writer_write ?_; refine p_call rfl rfl (hq _ (h.pm1)) ?_; rintro _ w ⟨p, q, rfl, hqq⟩) | refine stP ?_ | (refine stC0_P18f ?_; rintro _ w ⟨rfl, h⟩) | (refine p_cmp rfl rfl rfl rfl (fun hc => ?_) (fun hc => ?_) <;> simp only [cmpProp] at hc) | fail)
  exact x_ret' is_inplace_Writer_Move rfl hqq

theorem inplace_Writer_Move_end {Q : Value → World → Prop} {b r : Nat} {y : WrM} {u : Value} (hst : y.st = 3) (hq : ∀ w, Sat S w (pt r (.cells (wrC b y u).toArray T.inplace_Writer (0, 0)) :: G) → Ret Try.prog F.inplace_Writer_end #[.pointer (some ⟨r, 0, none⟩)] w (fun v w' => ∃ p q : Int, v = .tuple #[.int .i64 p, .int .i64 q] ∧ Q v w')) (h : Sat S w (pt r (.cells (wrC b y u).toArray T.inplace_Writer (0, 0)) :: G)) :
    Ret Try.prog F.inplace_Writer_Move #[.pointer (some ⟨r, 0, none⟩)] w Q := by
  refine ret_of is_inplace_Writer_Move rfl ?_
  repeat' (first | (refine gC F.inplace_Writer_end ?_; refine p_call rfl rfl (hq _ (h.pm1)) ?_; rintro _ w ⟨p, q, rfl, hqq⟩) | refine stP ?_ | (refine stC0_P18f ?_; rintro _ w ⟨rfl, h⟩) | (refine p_cmp rfl rfl rfl rfl (fun hc => ?_) (fun hc => ?_) <;> simp only [cmpProp] at hc) | fail)
  exact x_ret' is_inplace_Writer_Move rfl hqq

theorem inplace_Writer_Move_done {b r : Nat} {y : WrM} {u : Value} (hst : y.st = 4) (h : Sat S w (pt r (.cells (wrC b y u).toArray T.inplace_Writer (0, 0)) :: G)) :
    Ret Try.prog F.inplace_Writer_Move #[.pointer (some ⟨r, 0, none⟩)] w (fun v w' => v = .tuple #[.int .i64 2, .int .i64 0] ∧ Sat S w' (pt r (.cells (wrC b y u).toArray T.inplace_Writer (0, 0)) :: G)) := by
  refine ret_of is_inplace_Writer_Move rfl ?_
  repeat' (first | refine stPs ?_ | (refine stC0_P18f ?_; rintro _ w ⟨rfl, h⟩) | (refine p_cmp rfl rfl rfl rfl (fun hc => ?_) (fun hc => ?_) <;> simp only [cmpProp] at hc) | fail)
  exact x_ret' is_inplace_Writer_Move rfl ⟨rfl, h.pm1⟩

theorem inplace_Reader_Move_look {Q : Value → World → Prop} {b r : Nat} {y : RdM} {u : Value} (hst : y.st = 0) (hq : ∀ w, Sat S w (pt r (.cells (rdC b y u).toArray T.inplace_Reader (0, 0)) :: G) → Ret Try.prog F.inplace_Reader_look #[.pointer (some ⟨r, 0, none⟩)] w (fun v w' => ∃ p q : Int, v = .tuple #[.int .i64 p, .int .i64 q] ∧ Q v w')) (h : Sat S w (pt r (.cells (rdC b y u).toArray T.inplace_Reader (0, 0)) :: G)) :
    Ret Try.prog F.inplace_Reader_Move #[.pointer (some ⟨r, 0, none⟩)] w Q := by
  refine ret_of is_inplace_Reader_Move rfl ?_
  repeat' (first | (refine gC F.inplace_Reader_look ?_; refine p_call rfl rfl (hq _ (h.pm1)) ?_; rintro _ w ⟨p, q, rfl, hqq⟩) | refine stP ?_ | (refine stC1_P18f ?_; rintro _ w ⟨rfl, ⟨u, h⟩⟩) | (refine p_cmp rfl rfl rfl rfl (fun hc => ?_) (fun hc => ?_) <;> simp only [cmpProp] at hc) | (refine r_cmp rfl rfl rfl rfl rfl (fun hc => ?_) (fun hc => ?_) <;> simp only [cmpProp] at hc) | (refine x_drawn rfl ?_; have h := h.drew) | refine x_drawn rfl ?_ | fail)
  exact x_ret' is_inplace_Reader_Move rfl hqq

theorem inplace_Reader_Move_read {Q : Value → World → Prop} {b r : Nat} {y : RdM} {va : Option Addr} {vl vc : Nat} (hst : y.st = 1) (hw : (vl : Int) < y.words) (hq : ∀ w, Sat S w (pt r (.cells (rdC b y (.slice va vl vc)).toArray T.inplace_Reader (0, 0)) :: G) → Ret Try.prog F.inplace_Reader_read #[.pointer (some ⟨r, 0, none⟩)] w (fun v w' => ∃ p q : Int, v = .tuple #[.int .i64 p, .int .i64 q] ∧ Q v w')) (h : Sat S w (pt r (.cells (rdC b y (.slice va vl vc)).toArray T.inplace_Reader (0, 0)) :: G)) :
    Ret Try.prog F.inplace_Reader_Move #[.pointer (some ⟨r, 0, none⟩)] w Q := by
  refine ret_of is_inplace_Reader_Move rfl ?_
  repeat' (first | (refine gC F.inplace_Reader_read ?_; refine p_call rfl rfl (hq _ (h.pm1)) ?_; rintro _ w ⟨p, q, rfl, hqq⟩) | refine stP ?_ | (refine stC1_P18f ?_; rintro _ w ⟨rfl, ⟨u, h⟩⟩) | (refine p_cmp rfl rfl rfl rfl (fun hc => ?_) (fun hc => ?_) <;> simp only [cmpProp] at hc) | (refine r_cmp rfl rfl rfl rfl rfl (fun hc => ?_) (fun hc => ?_) <;> simp only [cmpProp] at hc) | (refine x_drawn rfl ?_; have h := h.drew) | refine x_drawn rfl ?_ | fail)
  exact x_ret' is_inplace_Reader_Move rfl hqq

theorem inplace_Reader_Move_check {Q : Value → World → Prop} {b r : Nat} {y : RdM} {va : Option Addr} {vl vc : Nat} (hst : y.st = 1) (hw : y.words ≤ (vl : Int)) (hq : ∀ w, Sat S w (pt r (.cells (rdC b y (.slice va vl vc)).toArray T.inplace_Reader (0, 0)) :: G) → Ret Try.prog F.inplace_Reader_check #[.pointer (some ⟨r, 0, none⟩)] w (fun v w' => ∃ p q : Int, v = .tuple #[.int .i64 p, .int .i64 q] ∧ Q v w')) (h : Sat S w (pt r (.cells (rdC b y (.slice va vl vc)).toArray T.inplace_Reader (0, 0)) :: G)) :
    Ret Try.prog F.inplace_Reader_Move #[.pointer (some ⟨r, 0, none⟩)] w Q := by
  refine ret_of is_inplace_Reader_Move rfl ?_
  repeat' (first | (refine gC F.inplace_Reader_check ?_; refine p_call rfl rfl (hq _ (h.pm1)) ?_; rintro _ w ⟨p, q, rfl, hqq⟩) | refine stP ?_ | (refine stC1_P18f ?_; rintro _ w ⟨rfl, ⟨u, h⟩⟩) | (refine p_cmp rfl rfl rfl rfl (fun hc => ?_) (fun hc => ?_) <;> simp only [cmpProp] at hc) | (refine r_cmp rfl rfl rfl rfl rfl (fun hc => ?_) (fun hc => ?_) <;> simp only [cmpProp] at hc) | (refine x_drawn rfl ?_; have h := h.drew) | refine x_drawn rfl ?_ | fail)
  exact x_ret' is_inplace_Reader_Move rfl hqq

theorem inplace_Reader_Move_done {b r : Nat} {y : RdM} {va : Option Addr} {vl vc : Nat} (hst : y.st = 4) (h : Sat S w (pt r (.cells (rdC b y (.slice va vl vc)).toArray T.inplace_Reader (0, 0)) :: G)) :
    Ret Try.prog F.inplace_Reader_Move #[.pointer (some ⟨r, 0, none⟩)] w (fun v w' => v = .tuple #[.int .i64 2, .int .i64 0] ∧ Sat S w' (pt r (.cells (rdC b y (.slice va vl vc)).toArray T.inplace_Reader (0, 0)) :: G)) := by
  refine ret_of is_inplace_Reader_Move rfl ?_
  repeat' (first | refine stPs ?_ | (refine stC1_P18f ?_; rintro _ w ⟨rfl, ⟨u, h⟩⟩) | (refine p_cmp rfl rfl rfl rfl (fun hc => ?_) (fun hc => ?_) <;> simp only [cmpProp] at hc) | (refine r_cmp rfl rfl rfl rfl rfl (fun hc => ?_) (fun hc => ?_) <;> simp only [cmpProp] at hc) | (refine x_drawn rfl ?_; have h := h.drew) | refine x_drawn rfl ?_ | fail)
  exact x_ret' is_inplace_Reader_Move rfl ⟨rfl, h.pm1⟩
end
end Go.Proofs.Ytjoicobfjpaepaa
