/- Functions: what the deterministic reading answers, the code answers, whatever the tape. -/
import Derived.Test.YtdaicpekdnkafaaGreatDoorSyB
namespace Go.Sx
open Go Go.RowKit
section
variable {E : Env}

/-- What one result is. -/
def resVar (tm : Array Value) : ResultVar → Sem Value
  | .tmp t => pure (tm.getD t undef)
  | .cell a t => do loadVar t (← asAddr (tm.getD a undef))
theorem results_eq (fn : Func) (tm : Array Value) : results fn tm = (do let vs ← fn.results.mapM (resVar tm); pure (if h : vs.size = 1 then vs[0] else .tuple vs)) := by
  unfold results
  congr 1

theorem results_list (M : BMap) {h : H} {w : World} (K : HRel E.W0 M h.get w) {fr : Fr} {tm : Array Value} (hr : LRel M fr tm.toList) : ∀ (L : List ResultVar) (rs : List RV) (xs : List AV), compR E.P L = some rs → resultL E fr h rs = some xs →
    ∃ us : List Value, (L.mapM (resVar tm)).run E.P w = .ok us w ∧ LRel M xs us := by
  have hsz : tm.size = fr.length := by simpa using hr.1
  intro L
  induction L with
  | nil =>
    intro rs xs h1 h2
    simp only [compR, Option.some.injEq] at h1; subst h1
    simp only [resultL, Option.some.injEq] at h2; subst h2
    exact ⟨[], by simp, LRel.nil⟩
  | cons r L ih =>
    intro rs xs h1 h2
    cases r with
    | tmp t =>
      simp only [compR, Option.map_eq_some_iff] at h1
      obtain ⟨rs', hrs, rfl⟩ := h1
      simp only [resultL, result1] at h2
      split at h2 <;> first | (cases h2; done) | skip
      rename_i x xs' hx hxs
      injection h2 with h2; subst h2
      obtain ⟨us, e, rr⟩ := ih rs' xs' hrs hxs
      obtain ⟨v, hv, rv⟩ := hr.get hx
      have hg : tm.getD t undef = v := by rw [Array.getD_eq_getD_getElem?]; rw [← Array.getElem?_toList, hv]; rfl
      exact ⟨v :: us, by simp only [List.mapM_cons, resVar, Sem.run_bind, Sem.run_pure, Result.andThen_ok, hg, e], LRel.cons rv rr⟩
    | cell a t =>
      simp only [compR] at h1
      split at h1 <;> first | (cases h1; done) | skip
      rename_i d n rs' hd hn hrs
      have fin : ∀ agg m, rs = .cell a agg m :: rs' → m = n → agg = isAggD d → ∃ us : List Value, ((ResultVar.cell a t :: L).mapM (resVar tm)).run E.P w = .ok us w ∧ LRel M xs us := by
        intro agg m h1 hm hagg
        subst h1 hm hagg
        simp only [resultL] at h2
        split at h2 <;> first | (cases h2; done) | skip
        rename_i x xs' hx hxs
        injection h2 with h2; subst h2
        obtain ⟨us, e, rr⟩ := ih rs' xs' hrs hxs
        have hv : VRel M (fr.getD a (.c undef)) (tm.getD a undef) := by
          have := aeval_rel (M := M) (fr := fr) (a := ⟨tm, []⟩) hsz (.tmp a) fun t _ x v hx hv => hr.2 t x v hx (by simpa using hv)
          exact this
        have hs : lstep E (.load (isAggD d) m) [fr.getD a (.c undef)] h.get = some x := by
          simp only [result1] at hx
          simp only [lstep]
          exact hx
        obtain ⟨u, hu, ru⟩ := load_sim K hd hn hv hs
        refine ⟨u :: us, ?_, LRel.cons ru rr⟩
        have hl : (resVar tm (.cell a t)).run E.P w = .ok u w := by
          simp only [resVar]
          generalize tm.getD a undef = z at *
          cases z <;> simp [Instr.loadAt, Instr.sureAddr] at hu
          rename_i p
          cases p <;> simp at hu
          simp only [asAddr, Sem.run_bind, Sem.run_pure, Result.andThen_ok]
          exact hu
        simp only [List.mapM_cons, Sem.run_bind, hl, Result.andThen_ok, e, Sem.run_pure]
      cases hagg : isAggD d with
      | true =>
        rw [hagg] at h1
        simp only [cond_true, Option.some.injEq] at h1
        exact fin true n h1.symm rfl hagg.symm
      | false =>
        rw [hagg] at h1
        simp only [cond_false] at h1
        cases hn1 : n.beq 1 with
        | false => rw [hn1] at h1; cases h1
        | true =>
          rw [hn1] at h1
          simp only [cond_true, Option.some.injEq] at h1
          exact fin false 1 h1.symm (Nat.eq_of_beq_eq_true hn1).symm hagg.symm

/-- One function, from what is known of the calls in it. -/
theorem fn_calls (hE : EnvOk E) {C : CallF} (hC : CallsOk E C) (hLen : LenOk C) (hm : E.P.follows .mixedOrders = true) {f : FuncId} {fn : Func} {g : AFn} (hf : E.P.funcs[f]? = some fn) (hg : compF E.P fn = some g) {n : Nat}
    {xs : List AV} {h h' : H} {r : AV} (he : runFn E C n g xs h = some (r, h')) : h.len ≤ h'.len ∧ ∀ M w (vs : Array Value), HRel E.W0 M h.get w → LRel M xs vs.toList → Fresh M h.len h'.len →
    Calls E.P f vs w (fun e w' => ∃ v M', e = .returned v ∧ VRel M' r v ∧ Step E.W0 M h w M' h' w') := by
  unfold compF at hg
  split at hg <;> first | (cases hg; done) | skip
  rename_i c hb
  split at hg <;> first | (cases hg; done) | skip
  rename_i b rs hcb hrs
  injection hg with hg; subst hg
  simp only [runFn] at he
  split at he
  · cases he
  · rename_i ex fr h1 hne hx
    have hl := exec_len hLen n _ _ _ _ _ _ hx
    -- the answer
    obtain ⟨zs, hz, hh, hr⟩ : ∃ zs, resultL E fr h1 rs = some zs ∧ h1 = h' ∧ ((∃ v, zs = [v] ∧ r = v) ∨ ((∀ v, zs ≠ [v]) ∧ r = .tup zs)) := by
      split at he
      · rename_i v hz
        simp only [Option.some.injEq, Prod.mk.injEq] at he
        exact ⟨_, hz, he.2, .inl ⟨v, rfl, he.1.symm⟩⟩
      · rename_i zs hno hz
        simp only [Option.some.injEq, Prod.mk.injEq] at he
        exact ⟨zs, hz, he.2, .inr ⟨fun v e => hno v e, he.1.symm⟩⟩
      · cases he
    subst hh
    refine ⟨hl, ?_⟩
    intro M w vs K hvs hfr
    have hsz : vs.size = xs.length := by simpa using hvs.1
    refine calls_of_wp hf hb ?_
    refine code_wp hE hC hLen hm n c b hcb _ h ex fr h1 hx M _ w _ K ?_ hfr ?_
    · simp only [Array.toList_append, Array.toList_replicate, hsz]
      exact hvs.append (LRel.replicate _ (.c _))
    · intro M' a' w' s rr hd
      obtain ⟨us, hus, ru⟩ := results_list M' s.rel rr fn.results.toList rs zs hrs hz
      have hres : ∃ v, (results fn a'.tmps).run E.P w' = .ok v w' ∧ VRel M' r v := by
        have hmap : (fn.results.mapM (resVar a'.tmps)).run E.P w' = .ok us.toArray w' := by
          rw [Array.mapM_eq_mapM_toList]
          simp only [Sem.run_map, hus]
          rfl
        rw [results_eq, Sem.run_bind, hmap]
        simp only [Result.andThen_ok, Sem.run_pure]
        rcases hr with ⟨v, rfl, rfl⟩ | ⟨hno, rfl⟩
        · obtain ⟨u, us', rfl, hu, hnil⟩ := ru.cons_inv
          have := hnil.nil_inv; subst this
          exact ⟨u, by simp, hu⟩
        · have hne1 : us.toArray.size ≠ 1 := by
            intro e
            have e' : zs.length = 1 := by have := ru.1; simp at e; omega
            cases zs with
            | nil => simp at e'
            | cons z zs =>
              cases zs with
              | nil => exact hno z rfl
              | cons _ _ => simp at e'
          exact ⟨.tuple us.toArray, by rw [dif_neg hne1], .tup' (by simpa using ru)⟩
      obtain ⟨v, e1, e2⟩ := hres
      have e3 : a'.defers = [] := hd
      cases ex with
      | normal => exact ⟨e3, v, e1, v, M', rfl, e2, s⟩
      | ret => exact ⟨e3, v, e1, v, M', rfl, e2, s⟩
      | exit k => exact (hne k rfl).elim
  · cases he

/-- What is known of a function apart. -/
def SumOk (E : Env) (f : FuncId) (s : List AV → H → Option (AV × H)) : Prop := ∀ xs h r h', s xs h = some (r, h') → h.len ≤ h'.len ∧ ∀ M w (vs : Array Value), HRel E.W0 M h.get w → LRel M xs vs.toList → Fresh M h.len h'.len →
    Calls E.P f vs w (fun e w' => ∃ v M', e = .returned v ∧ VRel M' r v ∧ Step E.W0 M h w M' h' w')

structure TabOk (E : Env) (S : FuncId → Option (List AV → H → Option (AV × H))) (F : FuncId → Option AFn) : Prop where
  env : EnvOk E
  mixed : E.P.follows .mixedOrders = true
  fns : ∀ f g, F f = some g → ∃ fn, E.P.funcs[f]? = some fn ∧ compF E.P fn = some g
  sums : ∀ f s, S f = some s → SumOk E f s

theorem X_ok {S : FuncId → Option (List AV → H → Option (AV × H))} {F : FuncId → Option AFn} (T : TabOk E S F) : ∀ n, LenOk (X E S F n) ∧ CallsOk E (X E S F n) := by
  intro n
  induction n with
  | zero =>
    refine ⟨?_, ?_⟩
    · intro f xs h r h' e; cases e
    · intro f xs h r h' e; cases e
  | succ n ih =>
    have key : ∀ f xs h r h', X E S F (n + 1) f xs h = some (r, h') → h.len ≤ h'.len ∧ ∀ M w (vs : Array Value), HRel E.W0 M h.get w → LRel M xs vs.toList → Fresh M h.len h'.len →
        Calls E.P f vs w (fun e w' => ∃ v M', e = .returned v ∧ VRel M' r v ∧ Step E.W0 M h w M' h' w') := by
      intro f xs h r h' e
      simp only [X] at e
      split at e
      · rename_i s hs
        exact T.sums f s hs xs h r h' e
      · split at e <;> first | (cases e; done) | skip
        rename_i g hg
        obtain ⟨fn, hf, hc⟩ := T.fns f g hg
        exact fn_calls T.env ih.2 ih.1 T.mixed hf hc e
    exact ⟨fun f xs h r h' e => (key f xs h r h' e).1, fun f xs h r h' e => (key f xs h r h' e).2⟩

/-- The empty memory stands for whatever the world holds. -/
theorem HRel.start (w : World) : HRel w (fun _ => none) H.empty.get w where
  has := by intro b cb k m; cases m
  inj := by intro b b' cb cb' k k' m; cases m
  bnd := by intro b cb m; cases m
  old := Below.refl _ _

/-- From without: what the reading answers is what the code answers. -/
theorem X_calls {S : FuncId → Option (List AV → H → Option (AV × H))} {F : FuncId → Option AFn} (T : TabOk E S F) {n : Nat} {f : FuncId} {xs : List AV} {r : AV} {h' : H} (he : X E S F n f xs H.empty = some (r, h')) (vs : Array Value) (hx : LRel (fun _ => none) xs vs.toList) :
    Calls E.P f vs E.W0 (fun e w' => ∃ v M, e = .returned v ∧ VRel M r v ∧ HRel E.W0 M h'.get w' ∧ Below E.W0.heap.size E.W0 w') := by
  refine Calls.mono ((X_ok T n).2 f xs H.empty r h' he (fun _ => none) E.W0 vs (HRel.start _) hx (fun _ _ _ => rfl)) ?_
  rintro e w' ⟨v, M, rfl, hv, s⟩
  exact ⟨v, M, rfl, hv, s.rel, s.rel.old⟩
end
end Go.Sx
