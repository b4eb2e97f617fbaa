/- Layer 29 (meter): may a history be measured, what compares. -/
import Derived.Test.YtojopmkekimpjaaHxS
import Derived.Test.YtojopmkekimpjaaIr0
import Derived.Test.YtojopmkekimpjaaL29
namespace Go.Proofs.Ytojopmkekimpjaa
open Go Go.HX
attribute [local irreducible] Ret XRun XOps XDr XOne Does Gives
set_option maxRecDepth 4000
set_option maxHeartbeats 1000000
theorem stC0_P29 {goal next : Prop} (k : next) (hs : Hid next → goal := by (intro k; (first | (refine gBx ?_; refine p_do rfl (d_boxL rfl h (by first | (dsimp only [Value.cells]; done) | exact rfl)) ?_) | fail); exact k.out)) : goal := hs ⟨k⟩
/-- The first that is so; -1: none is. -/
def findE (p : EvM → Bool) (l : List EvM) : Int := match l.findIdx? p with
  | some i => i
  | none => -1
theorem findE_step {p : EvM → Bool} {l : List EvM} {i : Nat} {x : EvM} (hx : l[i]? = some x) (hn : ∀ j y, j < i → l[j]? = some y → p y = false) (hp : p x = true) : findE p l = i := by
  have hi : i < l.length := (List.getElem?_eq_some_iff.1 hx).1
  have : l.findIdx? p = some i := by
    rw [List.findIdx?_eq_some_iff_getElem]
    refine ⟨hi, by rw [(List.getElem?_eq_some_iff.1 hx).2]; exact hp, fun j hj => ?_⟩
    simpa using hn j _ hj (List.getElem?_eq_getElem (by omega))
  unfold findE
  rw [this]
theorem findE_none {p : EvM → Bool} {l : List EvM} (hn : ∀ j y, j < l.length → l[j]? = some y → p y = false) : findE p l = -1 := by
  have : l.findIdx? p = none := by
    rw [List.findIdx?_eq_none_iff]
    intro x hx
    obtain ⟨j, hj⟩ := List.getElem?_of_mem hx
    exact hn j x (List.getElem?_eq_some_iff.1 hj).1 hj
  unfold findE
  rw [this]
theorem findE_iff {p : EvM → Bool} {l : List EvM} : 0 ≤ findE p l ↔ ∃ e ∈ l, p e = true := by
  unfold findE
  cases h : l.findIdx? p with
  | none =>
    rw [List.findIdx?_eq_none_iff] at h
    refine ⟨fun e => absurd e (by decide), fun ⟨e, he, hp⟩ => ?_⟩
    rw [h e he] at hp
    cases hp
  | some i =>
    obtain ⟨hi, hp, _⟩ := List.findIdx?_eq_some_iff_getElem.1 h
    exact ⟨fun _ => ⟨_, List.getElem_mem hi, hp⟩, fun _ => by show (0 : Int) ≤ (i : Int); omega⟩
section
variable {S : SP} {w : World} {G : List HProp}

theorem meter_may_1_spec (e : EvM) (h : Sat S w G) : Ret Try.prog F.meter_may_1 #[.agg (evC e).toArray] w (fun v w' => v = .bool (decide (¬ e.soon)) ∧ Sat S w' G) := by
  refine ret_of is_meter_may_1 rfl ?_
  by_cases hs : e.soon
  · rw [decide_eq_false (fun hx => hx hs)]
    unfold EvM.soon at hs
    repeat' (first | refine stPs ?_ | (refine stC0_P29 ?_; rintro _ w ⟨bx, rfl, h⟩) | (refine p_cmp rfl rfl rfl rfl (fun hc => ?_) (fun hc => ?_) <;> simp only [cmpProp] at hc) | fail)
    exact x_ret' is_meter_may_1 rfl ⟨rfl, h.drop⟩
  · rw [decide_eq_true hs]
    unfold EvM.soon at hs
    repeat' (first | refine stPs ?_ | (refine stC0_P29 ?_; rintro _ w ⟨bx, rfl, h⟩) | (refine p_cmp rfl rfl rfl rfl (fun hc => ?_) (fun hc => ?_) <;> simp only [cmpProp] at hc) | fail)
    all_goals exact x_ret' is_meter_may_1 rfl ⟨rfl, h.drop⟩

theorem history_Right_1_spec (e : EvM) (h : Sat S w G) : Ret Try.prog F.history_Right_1 #[.agg (evC e).toArray] w (fun v w' => v = .bool (decide (¬ e.right)) ∧ Sat S w' G) := by
  refine ret_of is_history_Right_1 rfl ?_
  by_cases hs : e.right
  · rw [decide_eq_false (fun hx => hx hs)]
    unfold EvM.right at hs
    repeat' (first | refine stPs ?_ | (refine stC0_P29 ?_; rintro _ w ⟨bx, rfl, h⟩) | (refine p_cmp rfl rfl rfl rfl (fun hc => ?_) (fun hc => ?_) <;> simp only [cmpProp] at hc) | fail)
    all_goals exact x_ret' is_history_Right_1 rfl ⟨rfl, h.drop⟩
  · rw [decide_eq_true hs]
    unfold EvM.right at hs
    repeat' (first | refine stPs ?_ | (refine stC0_P29 ?_; rintro _ w ⟨bx, rfl, h⟩) | (refine p_cmp rfl rfl rfl rfl (fun hc => ?_) (fun hc => ?_) <;> simp only [cmpProp] at hc) | fail)
    all_goals exact x_ret' is_history_Right_1 rfl ⟨rfl, h.drop⟩

theorem slices_IndexFunc_api_Event_api_Event_spec {v : Value} {f : FuncId} {fs cs : Array Value} (l : List EvM) (p : EvM → Bool) (hbd : bodyOk Try.prog f = true) (hl : l.length ≤ 1000000) (hp : ∀ x ∈ l, ∀ w, Sat S w G → Ret Try.prog f (fs ++ #[.agg (evC x).toArray] ++ cs) w (fun u w' => u = .bool (p x) ∧ Sat S w' G)) (hr : ∀ w, Sat S w G → RdS w 8 v (rows evC l)) (h : Sat S w G) :
    Ret Try.prog F.slices_IndexFunc_api_Event_api_Event #[v, .func (.func f) fs cs] w (fun u w' => u = .int .i64 (findE p l) ∧ Sat S w' G) := by
  obtain ⟨a, len, cap, rfl, _⟩ := hr w h
  have hlen := (hr w h).rlen evC_len (by decide)
  refine ret_of is_slices_IndexFunc_api_Event_api_Event rfl ?_
  repeat' (first | refine stPs ?_ | (refine p_cmp rfl rfl rfl rfl (fun hc => ?_) (fun hc => ?_) <;> simp only [cmpProp] at hc) | fail)
  refine x_keep [0, 1, 7, 8] rfl ?_
  refine x_loop_inv (fun lm le w => ∃ (i : Nat), lm = len - i ∧ i ≤ len ∧ (∀ j y, j < i → l[j]? = some y → p y = false) ∧ le = [(0, .slice a len cap), (1, .func (.func f) fs cs), (7, .int .i64 len), (8, .int .i64 i)] ∧ Sat S w (G)) (len) ⟨0, rfl, by omega, fun j y hj => by omega, rfl, h⟩ ?_
  clear h
  rintro lm le w ⟨i, rfl, hi0, hi1, rfl, h⟩ ih
  by_cases hi : i < len
  · obtain ⟨x, hx⟩ := has_elem (show i < l.length by omega)
    obtain ⟨pa, po, rfl⟩ := (hr w h).addr (by omega)
    repeat' (first | (refine gL ?_; refine p_val rfl (g_ldE (i := i) evC_len rfl (hr _ h) hx (by omega)) ?_) | refine stP ?_ | (refine p_cmp rfl rfl rfl rfl (fun hc => ?_) (fun hc => ?_) <;> simp only [cmpProp] at hc) | fail)
    refine p_cv rfl rfl hbd rfl (hp x (List.mem_of_getElem? hx) _ h) ?_
    rintro _ w ⟨rfl, h⟩
    cases hpx : p x
    · repeat' (first | refine stPs ?_ | (refine p_cmp rfl rfl rfl rfl (fun hc => ?_) (fun hc => ?_) <;> simp only [cmpProp] at hc) | fail)
      exact x_keep [0, 1, 7, 8] rfl (ih _ _ _ (by omega) ⟨i + 1, rfl, by omega, fun j y hj hy => by
        rcases Nat.lt_or_ge j i with hji | hji
        · exact hi1 j y hji hy
        · obtain rfl : j = i := by omega
          rw [hx] at hy
          cases hy
          exact hpx, rfl, h⟩)
    · repeat' (first | refine stPs ?_ | (refine p_cmp rfl rfl rfl rfl (fun hc => ?_) (fun hc => ?_) <;> simp only [cmpProp] at hc) | fail)
      exact x_ret' is_slices_IndexFunc_api_Event_api_Event rfl ⟨by rw [findE_step hx hi1 hpx]; rfl, h⟩
  · repeat' (first | refine stPs ?_ | (refine p_cmp rfl rfl rfl rfl (fun hc => ?_) (fun hc => ?_) <;> simp only [cmpProp] at hc) | fail)
    exact x_ret' is_slices_IndexFunc_api_Event_api_Event rfl ⟨by rw [findE_none (fun j y hj => hi1 j y (by omega))]; rfl, h⟩

theorem slices_ContainsFunc_api_Event_api_Event_spec {v : Value} {f : FuncId} {fs cs : Array Value} (l : List EvM) (p : EvM → Bool) (hbd : bodyOk Try.prog f = true) (hl : l.length ≤ 1000000) (hp : ∀ x ∈ l, ∀ w, Sat S w G → Ret Try.prog f (fs ++ #[.agg (evC x).toArray] ++ cs) w (fun u w' => u = .bool (p x) ∧ Sat S w' G)) (hr : ∀ w, Sat S w G → RdS w 8 v (rows evC l)) (h : Sat S w G) :
    Ret Try.prog F.slices_ContainsFunc_api_Event_api_Event #[v, .func (.func f) fs cs] w (fun u w' => BoolIs u (∃ e ∈ l, p e = true) ∧ Sat S w' G) := by
  obtain ⟨a, len, cap, rfl, _⟩ := hr w h
  refine ret_of is_slices_ContainsFunc_api_Event_api_Event rfl ?_
  have hf := findE_iff (p := p) (l := l)
  repeat' (first | (refine gC F.slices_IndexFunc_api_Event_api_Event ?_; refine p_call rfl rfl (slices_IndexFunc_api_Event_api_Event_spec l p hbd hl hp hr h) ?_; rintro _ w ⟨rfl, h⟩) | refine stP ?_ | (refine p_cmp rfl rfl rfl rfl (fun hc => ?_) (fun hc => ?_) <;> simp only [cmpProp] at hc) | fail)
  · exact x_ret' is_slices_ContainsFunc_api_Event_api_Event rfl ⟨.t (hf.1 (by omega)), h⟩
  · exact x_ret' is_slices_ContainsFunc_api_Event_api_Event rfl ⟨.f (fun hx => by have := hf.2 hx; omega), h⟩

theorem history_Right_spec {v : Value} (l : List EvM) (hl : l.length ≤ 1000000) (hr : ∀ w, Sat S w G → RdS w 8 v (rows evC l)) (h : Sat S w G) :
    Ret Try.prog F.history_Right #[v] w (fun u w' => BoolIs u (∀ e ∈ l, e.right) ∧ Sat S w' G) := by
  obtain ⟨a, len, cap, rfl, _⟩ := hr w h
  refine ret_of is_history_Right rfl ?_
  repeat' (first | (refine gC F.slices_ContainsFunc_api_Event_api_Event ?_; refine p_call rfl rfl (slices_ContainsFunc_api_Event_api_Event_spec (f := F.history_Right_1) (fs := #[]) (cs := #[]) l (fun e => decide (¬ e.right)) bd_history_Right_1 hl (fun x _ w h => history_Right_1_spec x h) hr h) ?_; rintro _ w ⟨(⟨rfl, hb⟩ | ⟨rfl, hb⟩), h⟩) | refine stP ?_ | fail)
  · obtain ⟨e, he, hp⟩ := hb
    exact x_ret' is_history_Right rfl ⟨.f (fun hx => of_decide_eq_true hp (hx e he)), h⟩
  · exact x_ret' is_history_Right rfl ⟨.t (fun e he => Decidable.byContradiction fun hn => hb ⟨e, he, decide_eq_true hn⟩), h⟩

theorem meter_may_spec {v : Value} (l : List EvM) (hl : l.length ≤ 1000000) (hr : ∀ w, Sat S w G → RdS w 8 v (rows evC l)) (h : Sat S w G) :
    Ret Try.prog F.meter_may #[v] w (fun u w' => BoolIs u (mayE l) ∧ Sat S w' G) := by
  obtain ⟨a, len, cap, rfl, _⟩ := hr w h
  refine ret_of is_meter_may rfl ?_
  repeat' (first | (refine gC F.history_Right ?_; refine p_call rfl rfl (history_Right_spec l hl hr h) ?_; rintro _ w ⟨(⟨rfl, hq⟩ | ⟨rfl, hq⟩), h⟩) | (refine gC F.slices_ContainsFunc_api_Event_api_Event ?_; refine p_call rfl rfl (slices_ContainsFunc_api_Event_api_Event_spec (f := F.meter_may_1) (fs := #[]) (cs := #[]) l (fun e => decide (¬ e.soon)) bd_meter_may_1 hl (fun x _ w h => meter_may_1_spec x h) hr h) ?_; rintro _ w ⟨(⟨rfl, hb⟩ | ⟨rfl, hb⟩), h⟩) | refine stP ?_ | fail)
  · obtain ⟨e, he, hp⟩ := hb
    exact x_ret' is_meter_may rfl ⟨.f (fun hx => of_decide_eq_true hp (hx.2 e he)), h⟩
  · exact x_ret' is_meter_may rfl ⟨.t ⟨hq, fun e he => Decidable.byContradiction fun hn => hb ⟨e, he, decide_eq_true hn⟩⟩, h⟩
  · exact x_ret' is_meter_may rfl ⟨.f (fun hx => hq hx.1), h⟩
end
end Go.Proofs.Ytojopmkekimpjaa
