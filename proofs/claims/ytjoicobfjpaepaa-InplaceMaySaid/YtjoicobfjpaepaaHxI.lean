/- HX, part I: more operations. -/
import Derived.Test.YtjoicobfjpaepaaHxH
namespace Go.HX
open Go
section
variable {P : Program} {fn : FuncId} {N : Nat} {e : Env} {w : World} {Q : Value → World → Prop} {k : List XI} {l : List XOp}
variable {t : TypeId} {x y : Operand} {a b : Int} {kd : IntKind} {op : BinOp}

theorem BoolIs.bool {v : Value} {p : Prop} (h : BoolIs v p) : ∃ b, v = .bool b := by
  rcases h with ⟨h, _⟩ | ⟨h, _⟩
  · exact ⟨_, h⟩
  · exact ⟨_, h⟩
theorem BoolIs.eq_t {v : Value} {p : Prop} (h : BoolIs v p) (hp : p) : v = .bool true := by
  rcases h with ⟨h, _⟩ | ⟨_, h⟩
  · exact h
  · exact absurd hp h
theorem BoolIs.eq_f {v : Value} {p : Prop} (h : BoolIs v p) (hp : ¬ p) : v = .bool false := by
  rcases h with ⟨_, h⟩ | ⟨h, _⟩
  · exact absurd h hp
  · exact h
theorem wrap_u32 (n : Int) : IntKind.u32.wrap n = n % 4294967296 := by
  unfold IntKind.wrap; simp [IntKind.bits, IntKind.signed]
theorem g_addw_u32 (hx : Env.val e x = some (.int .u32 a)) (hy : Env.val e y = some (.int .u32 b)) : Gives P N (.bin .add t x y) e w (.int .u32 ((a + b) % 4294967296)) :=
  bin_run hx hy (by simp) (fun w => by simp [Op.intArith, wrap_u32])
/-- A shift of an int. -/
theorem g_shl_i {k2 : IntKind} {v : Int} (hx : Env.val e x = some (.int .i64 a)) (hy : Env.val e y = some (.int k2 b)) (b0 : 0 ≤ b) (hv : IntKind.i64.wrap (a * 2 ^ min b.toNat 64) = v) : Gives P N (.bin .shl t x y) e w (.int .i64 v) := by
  intro o c hc hA
  obtain ⟨yt, ho⟩ := co_bin hc
  have hb : ¬ b < 0 := by omega
  subst hv
  simp [execOp, ho, hA.val hx, hA.val hy, eqGuard, binOp, Op.shift, hb, IntKind.bits]
/-- No slice at all owns nothing. -/
theorem ownS_none {S : SP} {G : List HProp} {E : TypeId} {n : Nat} (h : Sat S w G) : Sat S w (ownS E n (.slice none 0 0) [] :: G) :=
  (Sat_emp.2 h).mono (fun _ hH => .inl ⟨rfl, rfl, hH⟩)
/-! results in cells -/
/-- The results of a function, as they are read. -/
def ResIs (P : Program) (e : Env) (w : World) : List ResultVar → List Value → Prop
  | [], vs => vs = []
  | .tmp t :: r, vs => ∃ v us, vs = v :: us ∧ Env.get e t = some v ∧ ResIs P e w r us
  | .cell t ty :: r, vs => ∃ v us ad, vs = v :: us ∧ Env.get e t = some (.pointer (some ad)) ∧ (loadVar ty ad).run P w = .ok v w ∧ ResIs P e w r us
theorem res_run {a' : Act} (hA : Agree N e a') (g : ResultVar → Sem Value) (hg : ∀ t, g (.tmp t) = pure (a'.tmps.getD t undef)) (hc : ∀ t ty, g (.cell t ty) = (do loadVar ty (← asAddr (a'.tmps.getD t undef)))) :
    ∀ (l : List ResultVar) (vs : List Value), ResIs P e w l vs → (List.mapM g l).run P w = .ok vs w
  | [], vs, h => by
    obtain rfl : vs = [] := h
    simp
  | .tmp t :: r, vs, h => by
    obtain ⟨v, us, rfl, hv, hr⟩ := h
    have ih := res_run hA g hg hc r us hr
    have hget := hA.get t v hv
    have e1 : a'.tmps.getD t undef = v := by simp [Array.getD_eq_getD_getElem?, hget]
    simp only [List.mapM_cons, hg, Sem.run_bind, Sem.run_pure, Result.andThen, ih, e1]
  | .cell t ty :: r, vs, h => by
    obtain ⟨v, us, ad, rfl, hv, hl, hr⟩ := h
    have ih := res_run hA g hg hc r us hr
    have hget := hA.get t _ hv
    have e1 : a'.tmps.getD t undef = .pointer (some ad) := by simp [Array.getD_eq_getD_getElem?, hget]
    simp only [List.mapM_cons, hc, Sem.run_bind, Sem.run_pure, Result.andThen, ih, e1, asAddr, hl]
theorem results_cells {F : Func} {vs : List Value} {a' : Act} (hr : ResIs P e w F.results.toList vs) (hA : Agree N e a') :
    (results F a'.tmps).run P w = .ok (resOne vs) w := by
  unfold results
  have hF : F.results = F.results.toList.toArray := by simp
  rw [hF, List.mapM_toArray]
  rw [map_eq_pure_bind]
  simp only [Sem.run_bind, Sem.run_pure, Result.andThen]
  rw [res_run hA _ (fun t => rfl) (fun t ty => rfl) _ _ hr]
  match vs with
  | [] => rfl
  | [v] => rfl
  | v :: v2 :: r => rfl
theorem x_retc {x : X} {M : Nat} {rs : List ResultVar} (hx : FnIs P fn x M rs) {vs : List Value} (hr : ResIs P e w rs vs) (hQ : Q (resOne vs) w) {k : List XI} : XRun P fn N (.code .ret :: k) e w Q := by
  obtain ⟨F, hF, hrs⟩ := hx.func
  rw [← hrs] at hr
  intro todo a' hrel ha
  cases hrel with | @code c' _ _ t hc r =>
  cases c' <;> unfold cc at hc
  case ret =>
    intro b cs hb hk
    refine ⟨.returned (resOne vs), w, { b.at a' (.code .ret :: t) with mode := .returning }, ⟨_, rfl, hQ⟩, .of_steps (.one step_ret) (Steps.refl _ _), hb, ?_⟩
    refine ⟨rfl, ha.defers, hk, F, by simpa [Frame.at, hb] using hF, ?_⟩
    exact results_cells hr ha
  case region id ops d =>
    cases d <;> simp only [] at hc <;> (repeat' split at hc) <;> simp at hc
  all_goals first | (simp at hc; done) | ((repeat' split at hc) <;> simp at hc)
/-- A struct, read whole. -/
theorem load_agg {ty : TypeId} {b o n : Nat} {vs : List Value} (hg : aggOf P ty = some (some n)) (hn : vs.length = n) (hc : ∀ j u, vs[j]? = some u → w.cell? ⟨b, o + j, none⟩ = some u) :
    (loadVar ty ⟨b, o, none⟩).run P w = .ok (.agg vs.toArray) w := by
  obtain ⟨hg1, hg2⟩ := agg_run hg w
  subst hn
  have := run_loadCells_list (P := P) (w := w) ⟨b, o, none⟩ vs (fun j u hj => by rw [addr_add]; exact hc j u hj)
  simp [loadVar, hg1, hg2 _ rfl, this]
/-- A variable that is a struct, read whole. -/
theorem load_pt {S : SP} {G : List HProp} {ty : TypeId} {b n : Nat} {c : Array Value} {E : TypeId} {fr : Nat × Nat} (h : Sat S w (pt b (.cells c E fr) :: G)) (hg : aggOf P ty = some (some n)) (hn : c.size = n) :
    (loadVar ty ⟨b, 0, none⟩).run P w = .ok (.agg c) w := by
  have := load_agg (P := P) (w := w) (ty := ty) (b := b) (o := 0) (n := n) (vs := c.toList) hg (by simpa using hn) (fun j u hj => by
    rw [Nat.zero_add]
    exact h.cell .here (by simpa using hj))
  simpa using this
/-- The end of a function whose first result stands in a cell. -/
theorem x_retc1 {S : SP} {G : List HProp} {x : X} {M : Nat} {t u : Nat} {ty : TypeId} {b n : Nat} {c : Array Value} {E : TypeId} {fr : Nat × Nat} {v : Value} {k : List XI} (hx : FnIs P fn x M [.cell t ty, .tmp u])
    (ht : Env.get e t = some (.pointer (some ⟨b, 0, none⟩))) (hu : Env.get e u = some v) (h : Sat S w (pt b (.cells c E fr) :: G)) (hg : aggOf P ty = some (some n)) (hn : c.size = n) (hQ : Q (.tuple #[.agg c, v]) w) : XRun P fn N (.code .ret :: k) e w Q :=
  x_retc hx ⟨_, _, _, rfl, ht, load_pt h hg hn, _, _, rfl, hu, rfl⟩ hQ
end
theorem wf_u32 {a : Int} (h : (Lit.int .u32 a).wf = true) : 0 ≤ a ∧ a ≤ 4294967295 := by
  have := h
  simp [Lit.wf, IntKind.min, IntKind.max, IntKind.signed, IntKind.bits] at this
  omega
theorem ArgInts.len_le {k : IntKind} {w : World} {a : Option Addr} {len cap : Nat} {zs : List Int} (h : ArgInts k w a len cap zs) : len ≤ maxLen ∧ (zs.take len).length = len := by
  rcases h with ⟨_, rfl, _, rfl⟩ | ⟨x, _, h1, h2, h3, _⟩
  · exact ⟨Nat.zero_le _, rfl⟩
  · exact ⟨Nat.le_trans h1 h2, by rw [List.length_take]; omega⟩
theorem ArgInts.wf {k : IntKind} {w : World} {a : Option Addr} {len cap : Nat} {zs : List Int} (h : ArgInts k w a len cap zs) : ∀ n ∈ zs.take len, (Lit.int k n).wf = true := by
  rcases h with ⟨_, rfl, _, rfl⟩ | ⟨x, _, h1, h2, h3, _, h4⟩
  · intro n hn; cases hn
  · exact fun n hn => h4 n (List.mem_of_mem_take hn)
/-- An argument that is a slice reads as it was, whatever was made since. -/
theorem ArgInts.rd {G : List HProp} {k : IntKind} {w0 : World} {a : Option Addr} {len cap : Nat} {zs : List Int} (h : ArgInts k w0 a len cap zs) {w : World} (hs : Sat ⟨w0.heap.size, w0⟩ w G) : RdS w 1 (.slice a len cap) (ints k (zs.take len)) := by
  rcases h with ⟨rfl, rfl, rfl, rfl⟩ | ⟨x, rfl, h1, h2, h3, h4, _⟩
  · exact RdS.nil w 1
  · refine ⟨_, _, _, rfl, h1, by rw [ints_length, List.length_take]; omega, fun hpos => ?_⟩
    have hspot : x.spot = none := by
      have := h4 0 (by omega)
      unfold World.cell? at this
      split at this
      · split at this
        · cases this
        · rename_i hs
          simpa [Addr.add] using hs
      · cases this
    refine ⟨x.block, x.off, by cases x; simp_all, fun j u hj => ?_⟩
    have hjl : j < (zs.take len).length := by have := (List.getElem?_eq_some_iff.1 hj).1; rwa [ints_length] at this
    have hj2 : j < len := by rw [List.length_take] at hjl; omega
    rw [ints_get hjl] at hj
    have h5 := h4 j (by omega)
    have e1 : (zs.take len).getD j 0 = zs.getD j 0 := by simp [List.getD_eq_getElem?_getD, hj2]
    rw [e1] at hj
    rw [← hj, ← h5]
    have e2 : x.add j = ⟨x.block, x.off + j, none⟩ := by cases x; simp_all [Addr.add]
    rw [e2] at h5 ⊢
    have hlt : x.block < w0.heap.size := by
      unfold World.cell? at h5
      split at h5
      · rename_i hh
        exact (Array.getElem?_eq_some_iff.1 hh).1
      · cases h5
    have := hs.old hlt
    unfold World.cell?
    simp only at this ⊢
    rw [this]
theorem wf_getD {k : IntKind} {l : List Int} (h : ∀ n ∈ l, (Lit.int k n).wf = true) (h0 : (Lit.int k 0).wf = true) (i : Nat) : (Lit.int k (l.getD i 0)).wf = true := by
  rw [List.getD_eq_getElem?_getD]
  cases hg : l[i]? with
  | none => exact h0
  | some b => exact h b (List.mem_of_getElem? hg)
end Go.HX
