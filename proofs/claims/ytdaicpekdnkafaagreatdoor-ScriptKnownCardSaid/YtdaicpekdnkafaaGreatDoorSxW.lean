/- One operation of the code, in both readings. -/
import Derived.Test.YtdaicpekdnkafaaGreatDoorSxV
namespace Go.Sx
open Go Go.RowKit
section
variable {E : Env} {C : CallF}

/-- What is known of the calls. -/
def CallsOk (E : Env) (C : CallF) : Prop := ∀ f xs h r h', C f xs h = some (r, h') → ∀ M w (vs : Array Value), HRel E.W0 M h.get w → LRel M xs vs.toList → Fresh M h.len h'.len →
  Calls E.P f vs w (fun e w' => ∃ v M', e = .returned v ∧ VRel M' r v ∧ Step E.W0 M h w M' h' w')

/-- The operations of a region, one by one. -/
structure Corr (P : Program) (ops : Array Oper) (l : List AOper) : Prop where
  len : l.length = ops.size
  op : ∀ (k : Nat) (u : AOper), l[k]? = some u → ∃ o, ops[k]? = some o ∧ u.dst = o.dst ∧ u.ao = (compOp' P o).1 ∧ u.args = (compOp' P o).2 ∧ compGuard ops o.guard = some u.guard

theorem compOps_corr {P : Program} {ops : Array Oper} : ∀ {L : List Oper} {l : List AOper}, compOps P ops L = some l → l.length = L.length ∧
    ∀ (k : Nat) (u : AOper), l[k]? = some u → ∃ o, L[k]? = some o ∧ u.dst = o.dst ∧ u.ao = (compOp' P o).1 ∧ u.args = (compOp' P o).2 ∧ compGuard ops o.guard = some u.guard := by
  intro L
  induction L with
  | nil => intro l h; simp [compOps] at h; subst h; simp
  | cons o L ih =>
    intro l h
    simp only [compOps] at h
    split at h <;> first | (cases h; done) | skip
    rename_i g r hg hr
    injection h with h; subst h
    obtain ⟨a, b⟩ := ih hr
    refine ⟨by simp [a], ?_⟩
    intro k u hk
    cases k with
    | zero => simp at hk; subst hk; exact ⟨o, rfl, rfl, rfl, rfl, hg⟩
    | succ k => simpa using b k u (by simpa using hk)

theorem Corr.of {P : Program} {ops : Array Oper} {l : List AOper} (h : compOps P ops ops.toList = some l) : Corr P ops l := by
  obtain ⟨a, b⟩ := compOps_corr h
  exact ⟨by simpa using a, fun k u hk => by simpa using b k u hk⟩

theorem span_get (b : Array Nat) (aos : List AO) : ∀ (l : List AOper) (i k : Nat), (span b aos l i)[k]? = (l[k]?).map fun u => { u with lo := countW (fun j => ahead b j (i + k)) aos 0, hi := countW (fun j => !ahead b (i + k) j) aos 0 } := by
  intro l
  induction l with
  | nil => intro i k; simp [span]
  | cons u l ih =>
    intro i k
    cases k with
    | zero => simp [span]
    | succ k => simp only [span, List.getElem?_cons_succ, ih]; rw [show i + 1 + k = i + (k + 1) by omega]
theorem span_len (b : Array Nat) (aos : List AO) : ∀ (l : List AOper) (i : Nat), (span b aos l i).length = l.length := by
  intro l
  induction l with
  | nil => intro i; rfl
  | cons u l ih => intro i; simp [span, ih]

theorem Corr.span {P : Program} {ops : Array Oper} {l : List AOper} (h : Corr P ops l) (b : Array Nat) (aos : List AO) : Corr P ops (Sx.span b aos l 0) := by
  refine ⟨by rw [span_len, h.len], fun k u hk => ?_⟩
  rw [span_get] at hk
  cases hl : l[k]? with
  | none => simp [hl] at hk
  | some u' =>
    simp [hl] at hk
    subst hk
    exact h.op k u' hl

/-! ### Slots -/
/-- The slot t of both readings. -/
def SlotRel (M : BMap) (fr : Fr) (tm : Array Value) (t : Nat) : Prop := ∀ x v, fr[t]? = some x → tm[t]? = some v → VRel M x v

theorem slot_get {fr : Fr} {tm : Array Value} (hs : tm.size = fr.length) (t : Nat) : (∃ x v, fr[t]? = some x ∧ tm[t]? = some v) ∨ (fr[t]? = none ∧ tm[t]? = none) := by
  by_cases ht : t < fr.length
  · left; exact ⟨fr[t], tm[t]'(by omega), List.getElem?_eq_getElem ht, Array.getElem?_eq_getElem _⟩
  · right; exact ⟨List.getElem?_eq_none (by omega), Array.getElem?_eq_none (by omega)⟩

theorem aeval_rel {M : BMap} {fr : Fr} {a : Act} (hs : a.tmps.size = fr.length) (x : Operand) (h : ∀ t, x = .tmp t → SlotRel M fr a.tmps t) : VRel M (aeval fr x) (a.eval x) := by
  cases x with
  | tmp t =>
    have h := h t rfl
    simp only [aeval, Act.eval, List.getD_eq_getElem?_getD, Array.getD_eq_getD_getElem?]
    rcases slot_get hs t with ⟨x, v, e1, e2⟩ | ⟨e1, e2⟩
    · rw [e1, e2]
      exact h _ _ e1 e2
    · rw [e1, e2]
      exact .c _
  | const v => exact norm_rel M v
  | global g => exact .c _
  | func f => exact .fn (by simp) (by simp) (by simp) (by simp)

theorem mem_tmpsOf {l : List Operand} {t : Nat} : t ∈ tmpsOf l ↔ Operand.tmp t ∈ l := by
  induction l with
  | nil => simp [tmpsOf]
  | cons x l ih =>
    cases x <;> simp_all [tmpsOf]

theorem args_rel {M : BMap} {fr : Fr} {a : Act} (hs : a.tmps.size = fr.length) (l : List Operand) (h : ∀ t, t ∈ tmpsOf l → SlotRel M fr a.tmps t) : LRel M (l.map (aeval fr)) (l.map a.eval) := by
  induction l with
  | nil => exact LRel.nil
  | cons x l ih =>
    refine LRel.cons (aeval_rel hs x fun t e => h t ?_) (ih fun t ht => h t ?_)
    · rw [mem_tmpsOf]; simp [e]
    · rw [mem_tmpsOf] at ht ⊢; exact List.mem_cons_of_mem _ ht

theorem wanted_eq {M : BMap} {ops : Array Oper} {fr : Fr} {a : Act} (hs : a.tmps.size = fr.length) {o : Oper} {u : AOper} (hg : compGuard ops o.guard = some u.guard) (h : ∀ t, t ∈ (u.guard.map (·.1)).toList → SlotRel M fr a.tmps t) :
    Region.wanted o (yielded ops a.tmps) = wantedA u fr := by
  unfold Region.wanted wantedA
  cases hgo : o.guard with
  | none => rw [hgo] at hg; simp [compGuard] at hg; rw [← hg]
  | some p =>
    obtain ⟨j, want⟩ := p
    rw [hgo] at hg
    simp only [compGuard] at hg
    split at hg <;> first | (cases hg; done) | skip
    rename_i t ht
    simp only [Option.some.injEq] at hg
    rw [← hg]
    have h := h t (by simp [← hg])
    simp only [yielded, ht, Option.bind_some]
    rcases slot_get hs t with ⟨x, v, e1, e2⟩ | ⟨e1, e2⟩
    · have r := h _ _ e1 e2
      rw [e1, e2]
      cases r <;> try rfl
      cases v <;> rfl
    · rw [e1, e2]
      rfl

/-! ### An operation -/
theorem upon_val {P : Program} {o : Oper} {a : Act} {next : Act → World → Prop} {Q : Exit → Act → World → Prop} {nx : Next} {v : Value} {w : World} (h : nval nx = some v) :
    o.upon P a next Q (.ok nx w) = next (a.put o.dst v) w := by
  cases nx <;> simp [nval] at h
  · subst h; rfl
  · subst h; rfl

/-- An operation that reads, writes or calls. -/
theorem op_wp (hE : EnvOk E) (hC : CallsOk E C) {o : Oper} {ao : AO} {args : List Operand} (hc : (compOp' E.P o) = (ao, args)) {M : BMap} {h h' : H} {w : World} {a : Act} {xs : List AV} {x : AV}
    {next : Act → World → Prop} {Q : Exit → Act → World → Prop} (K : HRel E.W0 M h.get w) (hx : LRel M xs (args.map a.eval)) (hfr : Fresh M h.len h'.len)
    (hs : astep E C ao xs h = some (x, h')) (hn : ∀ M' v w', Step E.W0 M h w M' h' w' → VRel M' x v → next (a.put o.dst v) w') : o.wp E.P a w next Q := by
  have hρ := rho_eval a
  have hc' : compOp E.P o = some (ao, args) := by
    unfold compOp' at hc
    cases e : compOp E.P o with
    | none =>
      rw [e] at hc
      simp only [Option.getD_none, Prod.mk.injEq] at hc
      obtain ⟨rfl, rfl⟩ := hc
      simp [astep, AO.cls] at hs
      obtain ⟨v, hv, _⟩ := hs
      cases xs <;> simp [pstep] at hv
    | some r => rw [e] at hc; simp at hc; rw [hc]
  unfold Oper.wp
  cases hcls : ao.cls with
  | p =>
    simp only [astep, hcls, Option.map_eq_some_iff, Prod.mk.injEq] at hs
    obtain ⟨y, hy, rfl, rfl⟩ := hs
    obtain ⟨nx, v, r, n, q⟩ := pstep_sim (w := w) hE hρ hc' hcls hx hy
    rw [r, upon_val n]
    exact hn M v w (Step.refl K) q
  | l =>
    simp only [astep, hcls, Option.map_eq_some_iff, Prod.mk.injEq] at hs
    obtain ⟨y, hy, rfl, rfl⟩ := hs
    obtain ⟨nx, v, w', r, n, q, k, f⟩ := lstep_sim hc' hcls K hx hy
    rw [r, upon_val n]
    exact hn M v w' ⟨Nat.le_refl _, MLe.refl _, fun b p q => absurd p q, k, f, fun _ _ _ => rfl, fun i p => .inl p⟩ q
  | a =>
    simp only [astep, hcls, Option.map_eq_some_iff, Prod.mk.injEq] at hs
    obtain ⟨⟨k, y⟩, hy, rfl, rfl⟩ := hs
    have hM : M h.len = none := hfr _ (Nat.le_refl _) (by simp)
    obtain ⟨cb, nx, v, w', A⟩ := anew_sim hc' hcls K hx hM hy
    rw [A.run, upon_val A.nv]
    refine hn _ v w' (Step.push A.le ?_ A.fram ?_) A.val
    · exact A.rel
    · exact A.own
  | w =>
    simp only [astep, hcls] at hs
    split at hs
    · rename_i f ys hf
      obtain ⟨vs, r, q⟩ := callTarget_sim (w := w) hE hc' hρ hx hf
      rw [r, Oper.upon_enter]
      refine Calls.mono (hC f ys h x h' hs M w vs K q hfr) ?_
      rintro e w' ⟨v, M', rfl, p, s⟩
      exact hn M' v w' s p
    · obtain ⟨nx, v, w', M', r, n, q, s⟩ := wstep_sim hc' hcls K hx hfr hs
      rw [r, upon_val n]
      exact hn M' v w' s q
end
end Go.Sx
