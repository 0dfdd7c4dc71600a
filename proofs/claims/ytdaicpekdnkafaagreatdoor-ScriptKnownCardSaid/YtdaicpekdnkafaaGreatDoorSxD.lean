/- Each operation of the deterministic reading is the model's: those that look at no memory. -/
import Derived.Test.YtdaicpekdnkafaaGreatDoorSxC
import Derived.Laws.Entries
namespace Go.Sx
open Go Go.RowKit

/-- What an operation leaves in its slot. -/
def nval : Next → Option Value
  | .value v => some v
  | .skip => some undef
  | _ => none

/-- What is taken of the program's tables. -/
structure EnvOk (E : Env) : Prop where
  same : ∀ f, E.same f = true → ∀ v w, (callFunc f #[v]).run E.P w = .ok (.value v) w
  fn : ∀ f, E.okFn f = true → ∃ fn, E.P.funcs[f]? = some fn ∧ (fn.name == "runtime.NumGoroutine") = false ∧ fn.body.isNone = false
  meth : ∀ t name f, E.meth t name = some f → ∀ v w, (nilAhead (E.P.types.size + Made.depth) t v name).run E.P w = .ok (some false) w ∧
    (method (E.P.types.size + Made.depth) t v name).run E.P w = .ok (f, v) w

theorem LRel.inv0 {M : BMap} {xs : List AV} (h : LRel M xs []) : xs = [] := by have := h.1; simpa using this.symm
theorem LRel.invC {M : BMap} {xs : List AV} {v : Value} {vs : List Value} (h : LRel M xs (v :: vs)) : ∃ x l, xs = x :: l ∧ VRel M x v ∧ LRel M l vs := by
  cases xs with
  | nil => have := h.1; simp at this
  | cons x l => obtain ⟨v', us, e, a, b⟩ := h.cons_inv; simp at e; obtain ⟨rfl, rfl⟩ := e; exact ⟨x, l, rfl, a, b⟩
theorem LRel.inv1 {M : BMap} {xs : List AV} {v : Value} (h : LRel M xs [v]) : ∃ x, xs = [x] ∧ VRel M x v := by
  obtain ⟨x, l, rfl, a, b⟩ := h.invC; rw [b.inv0]; exact ⟨x, rfl, a⟩
theorem LRel.inv2 {M : BMap} {xs : List AV} {v u : Value} (h : LRel M xs [v, u]) : ∃ x y, xs = [x, y] ∧ VRel M x v ∧ VRel M y u := by
  obtain ⟨x, l, rfl, a, b⟩ := h.invC; obtain ⟨y, rfl, c⟩ := b.inv1; exact ⟨x, y, rfl, a, c⟩
theorem LRel.inv3 {M : BMap} {xs : List AV} {v u t : Value} (h : LRel M xs [v, u, t]) : ∃ x y z, xs = [x, y, z] ∧ VRel M x v ∧ VRel M y u ∧ VRel M z t := by
  obtain ⟨x, l, rfl, a, b⟩ := h.invC; obtain ⟨y, z, rfl, c, d⟩ := b.inv2; exact ⟨x, y, z, rfl, a, c, d⟩

theorem VRel.c_inv {M : BMap} {v u : Value} (h : VRel M (.c v) u) : u = v := by cases h; rfl

section
variable {P : Program} (w : World)
theorem run_zeroValue {t : TypeId} {i : TypeInfo} {z : Value} (h : P.info? t = some i) (hz : i.zero = some z) : (zeroValue t).run P w = .ok z w := by
  simp [zeroValue, typeInfo, h, hz]
theorem run_sizeOf' {t : TypeId} {n : Nat} (h : sizeP P t = some n) : (sizeOf t).run P w = .ok n w := by
  simp only [sizeP, Option.map_eq_some_iff] at h
  obtain ⟨i, hi, rfl⟩ := h
  simp [sizeOf, typeInfo, hi]
theorem run_isAgg' {t : TypeId} {d : TypeDesc} (h : P.underlying t = some d) : (isAgg t).run P w = .ok (isAggD d) w := by
  simp only [isAgg, Sem.run_bind, run_underlying h, Result.andThen_ok]
  cases d <;> simp [isAggD]
end

theorem binI_run {P : Program} {op : BinOp} {k k' : IntKind} {a b : Int} {v : Value} (t : TypeId) (h : binI op k a k' b = some v) (w : World) :
    (binOp op t (.int k a) (.int k' b)).run P w = .ok v w := by
  cases op <;> simp only [binI] at h <;> simp only [binOp] <;>
    first
    | (cases hb : decide (b < 0) <;> simp [hb] at h; subst h; simp at hb
       simp [Op.shift, show ¬ b < 0 by omega]; done)
    | (cases hk : decide (k = k') <;> simp [hk] at h
       simp at hk; subst hk; subst h; simp [Op.intArith, Op.intBits, Op.intCmp, bne]; done)
    | (cases hk : decide (k = k') <;> cases hb : decide (b = 0) <;> simp [hk, hb] at h
       simp at hk hb; subst hk; subst h; simp [Op.intDiv, hb]; done)

theorem allLower_rel {M : BMap} : ∀ {l : List AV} {vs us : List Value}, pstep.allLower l = some vs → LRel M l us → us = vs := by
  intro l
  induction l with
  | nil => intro vs us h r; simp [pstep.allLower] at h; subst h; exact r.nil_inv
  | cons x l ih =>
    intro vs us h r
    obtain ⟨v, us', rfl, hv, hr⟩ := r.cons_inv
    simp only [pstep.allLower] at h
    cases hx : lower x with
    | none => simp [hx] at h
    | some v' =>
      cases hl : pstep.allLower l with
      | none => simp [hx, hl] at h
      | some vs' => simp [hx, hl] at h; subst h; rw [lower_rel hx hv, ih hl hr]

/-- The operands' values, looked up by the operand. -/
theorem opIdx_eval (ρ : Operand → Value) (hρ : ∀ v, ρ (.const v) = v) (hg : ∀ g, ρ (.global g) = .pointer (some ⟨g, 0, none⟩)) (hf : ∀ f, ρ (.func f) = .func (.func f) #[] #[]) :
    ∀ (l : List Operand) (x : Operand), x ∈ l → opIdx l (l.map ρ) x = ρ x := by
  intro l
  induction l with
  | nil => intro x h; simp at h
  | cons y l ih =>
    intro x h
    cases x with
    | tmp t =>
      cases y with
      | tmp u =>
        simp only [List.map_cons, opIdx]
        cases hb : u.beq t with
        | true => have := Nat.eq_of_beq_eq_true hb; subst this; rfl
        | false =>
          simp only [cond_false]
          apply ih
          rcases List.mem_cons.1 h with e | e
          · injection e with e; subst e; simp at hb
          · exact e
      | _ =>
        simp only [List.map_cons, opIdx]
        apply ih
        rcases List.mem_cons.1 h with e | e
        · cases e
        · exact e
    | const v => simp [opIdx, hρ]
    | global g => simp [opIdx, hg]
    | func f => simp [opIdx, hf]

theorem isSelect {o : Oper} {ao : AO} {args : List Operand} {P : Program} (h : compOp0 P o = some (ao, args)) : ∀ cs b, o.op ≠ .select cs b := by
  intro cs b e
  simp [compOp0, e] at h

theorem gen_sim {E : Env} {o : Oper} {ρ : Operand → Value} {M : BMap} {xs : List AV} {x : AV} (w : World)
    (hρ : ∀ v, ρ (.const v) = v) (hg : ∀ g, ρ (.global g) = .pointer (some ⟨g, 0, none⟩)) (hf : ∀ f, ρ (.func f) = .func (.func f) #[] #[])
    (hsel : ∀ cs b, o.op ≠ .select cs b) (hx : LRel M xs (o.op.operands.toList.map ρ)) (hs : pstep E (.gen o) xs = some x) :
    ∃ nx v, (execOp ρ o).run E.P w = .ok nx w ∧ nval nx = some v ∧ VRel M x v := by
  simp only [pstep] at hs
  cases hl : pstep.allLower xs with
  | none => simp [hl] at hs
  | some vs =>
    simp only [hl] at hs
    have hvs := allLower_rel hl hx
    subst hvs
    rw [execOp_congr (ρ := opIdx o.op.operands.toList (o.op.operands.toList.map ρ)) (ρ' := ρ) o hsel (fun x hx => opIdx_eval ρ hρ hg hf _ x (by simpa using hx))] at hs
    cases hp : pureRun E.P (execOp ρ o) with
    | none => simp [hp] at hs
    | some nx =>
      cases nx <;> simp [hp] at hs
      rename_i v
      subst hs
      exact ⟨_, v, pureRun_run hp w, rfl, norm_rel M v⟩

/-- The frame's values under an operand. -/
structure Rho (ρ : Operand → Value) : Prop where
  const : ∀ v, ρ (.const v) = v
  global : ∀ g, ρ (.global g) = .pointer (some ⟨g, 0, none⟩)
  func : ∀ f, ρ (.func f) = .func (.func f) #[] #[]

theorem rho_eval (a : Act) : Rho a.eval := ⟨fun _ => rfl, fun _ => rfl, fun _ => rfl⟩

theorem refKind_rel {M : BMap} {x : AV} {v : Value} (h : VRel M x v) : match refKind x with
    | 1 => ∃ a, v = .pointer (some a)
    | 2 => ∃ a l c, v = .slice (some a) l c
    | 3 => ∃ r, v = .map (some r)
    | 4 => ∃ t u, v = .iface t u
    | 5 => ∃ f a b, v = .func f a b
    | _ => True := by
  cases h <;> simp [refKind]
theorem nilKind_rel {M : BMap} {x : AV} {v : Value} (h : VRel M x v) : match nilKind x with
    | 1 => v = .pointer none
    | 2 => ∃ l c, v = .slice none l c
    | 3 => v = .map none
    | 4 => v = .nilIface
    | 5 => v = .nilFunc
    | _ => True := by
  cases h with
  | c v =>
    cases v <;> simp [nilKind]
    case pointer a => cases a <;> simp
    case slice a l c => cases a <;> simp
    case map r => cases r <;> simp
  | _ => simp [nilKind]

/-- '==' and '!=' between a reference that is not nil and nil. -/
def nilPair : Nat → Value → Value → Bool
  | 1, .pointer (some _), .pointer none | 1, .pointer none, .pointer (some _) => true
  | 2, .slice (some _) _ _, .slice none _ _ | 2, .slice none _ _, .slice (some _) _ _ => true
  | 3, .map (some _), .map none | 3, .map none, .map (some _) => true
  | 4, .iface _ _, .nilIface | 4, .nilIface, .iface _ _ => true
  | 5, .func _ _ _, .nilFunc | 5, .nilFunc, .func _ _ _ => true
  | _, _, _ => false

theorem equal_nil_run {P : Program} {t : TypeId} {d : TypeDesc} {n : Nat} (hd : P.underlying t = some d) (hn : nilKindD d = n) {u v : Value} (w : World) (h : nilPair n u v = true) :
    (Op.equal t u v).run P w = .ok false w := by
  show (Op.equalIn (9999 + 1) t u v).run P w = _
  rw [Op.equalIn.eq_2]
  unfold nilPair at h
  split at h <;> first | (cases h; done) | skip
  all_goals (cases d <;> first | (cases hn; done) | (simp [run_underlying hd]; done))
theorem eqGuard_nil_run {P : Program} {t : TypeId} {n : Nat} {u v : Value} (op : BinOp) (X Y : Operand) (w : World) (h : nilPair n u v = true) :
    (eqGuard op t X Y u v).run P w = .ok () w := by
  unfold eqGuard
  unfold nilPair at h
  split at h <;> first | (cases h; done) | skip
  all_goals (cases op <;> simp)
theorem eq_nil_run {P : Program} {t : TypeId} {d : TypeDesc} (hd : P.underlying t = some d) {u v : Value} (X Y : Operand) (w : World) (h : nilPair (nilKindD d) u v = true) :
    (do eqGuard .eql t X Y u v; binOp .eql t u v : Sem Value).run P w = .ok (.bool false) w ∧
    (do eqGuard .neq t X Y u v; binOp .neq t u v : Sem Value).run P w = .ok (.bool true) w := by
  have he := equal_nil_run hd rfl w h
  rw [Sem.run_bind, Sem.run_bind, eqGuard_nil_run _ X Y w h, eqGuard_nil_run _ X Y w h]
  simp only [Result.andThen_ok]
  unfold nilPair at h
  split at h <;> first | (cases h; done) | skip
  all_goals (simp only [binOp]; simp [he])
end Go.Sx
