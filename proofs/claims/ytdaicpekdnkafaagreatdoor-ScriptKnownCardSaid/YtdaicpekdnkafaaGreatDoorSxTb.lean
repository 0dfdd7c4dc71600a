/- The operations, calls of functions without a body among them. -/
import Derived.Test.YtdaicpekdnkafaaGreatDoorSxTa
namespace Go.Sx
open Go Go.RowKit
section
variable {E : Env} {ρ : Operand → Value} {M : BMap} {F : Nat → Option AB} {h : H} {w : World}

theorem boundsA_run {P : Program} {w : World} {lo hi : Option Value} {l cap p q : Nat} (h : bndOf lo hi l p q) (hpq : p ≤ q) (hq : q ≤ cap) : (Instr.sliceBounds false l cap lo hi none).run P w = .ok (p, q, cap) w := by
  obtain ⟨ha, hb⟩ := h
  cases hi with
  | none =>
    simp only at hb; subst hb
    cases lo with
    | none => simp only at ha; subst ha; simp [Instr.sliceBounds]
    | some v =>
      obtain ⟨k, i, rfl, h0, rfl⟩ := ha
      have hle : i ≤ (q : Int) := by omega
      simp [Instr.sliceBounds, Instr.sliceBound, asIntOf, h0, hle]
  | some u =>
    obtain ⟨k, i, rfl, h0, rfl⟩ := hb
    have hle : i ≤ (cap : Int) := by omega
    cases lo with
    | none => simp only at ha; subst ha; simp [Instr.sliceBounds, Instr.sliceBound, asIntOf, h0, hle]
    | some v =>
      obtain ⟨k', i', rfl, h0', rfl⟩ := ha
      have hle' : i' ≤ max i 0 := by omega
      simp [Instr.sliceBounds, Instr.sliceBound, asIntOf, h0, hle, h0', hle']

theorem sliceArr_sim (K : HRel E.W0 M F w) {t e : TypeId} {n sz : Nat} (hu : E.P.underlying t = some (.array n e)) (hn : sizeP E.P e = some sz) {a : Operand} {lo hi : Option Operand} {xs : List AV} {x : AV}
    (hx : LRel M xs ((a :: lo.toList ++ hi.toList).map ρ)) (hs : lstep E (.sliceArr n sz lo.isSome hi.isSome) xs F = some x) :
    AnsR E M F w (do pure (.value (← Instr.sliceAt t (ρ a) (lo.map ρ) (hi.map ρ) none))) x := by
  obtain ⟨y, r, rfl, hy, hr⟩ := LRel.invC (by simpa using hx)
  have hr' : LRel M r ((lo.toList ++ hi.toList).map ρ) := by simpa using hr
  generalize ρ a = ra at *
  cases y <;> simp only [lstep] at hs <;> first | (cases hs; done) | skip
  rename_i b o
  cases hy with
  | ptr hM =>
    rename_i cb
    split at hs <;> first | (cases hs; done) | skip
    rename_i cs e' hF
    split at hs <;> first | (cases hs; done) | skip
    rename_i p r' h1
    split at hs <;> first | (cases hs; done) | skip
    rename_i q h2
    obtain ⟨hp, rfl⟩ := bif_true hs
    simp only [Bool.and_eq_true] at hp
    obtain ⟨⟨e1, e2⟩, e3⟩ := hp
    have e1 := Nat.le_of_ble_eq_true e1
    have e2 := Nat.le_of_ble_eq_true e2
    have e3 := Nat.le_of_ble_eq_true e3
    obtain ⟨k1, k2⟩ := sbnd_rel hr' h1
    obtain ⟨k3, _⟩ := sbnd_rel (rest := []) (by simpa using k2) h2
    obtain ⟨arr, fz, g1, g2, g3, _, _⟩ := K.cellsAt hM hF
    have hb : bndOf (lo.map ρ) (hi.map ρ) n p q := ⟨k1, k3⟩
    refine ansR (u := .slice (some (if n = p then ⟨cb.blk, cb.sh + o, none⟩ else (⟨cb.blk, cb.sh + o, none⟩ : Addr).add (p * sz))) (q - p) (n - p)) K ?_ ?_
    · simp [Instr.sliceAt, run_underlying hu, Instr.sureAddr, boundsA_run hb e1 e2, run_sizeOf' w hn]
    · by_cases hc : n = p
      · subst hc
        rw [if_pos rfl]
        exact .sl hM (by omega) (fun h => by omega) (fun h => by omega)
      · rw [if_neg hc]
        simp only [addr_add_ptr]
        refine .sl hM (by omega) (fun _ => ?_) (fun _ => rfl)
        have hm : (n - p) * sz + p * sz = n * sz := by rw [← Nat.add_mul]; congr 1; omega
        omega

theorem compOp_cases {P : Program} {o : Oper} {ao : AO} {args : List Operand} (hc : compOp P o = some (ao, args)) : (∃ f c, o.op = .call c ∧ c.callee = .value (.func f) ∧ ao = .ext f o ∧ args = o.op.operands.toList) ∨
    (∃ t x lo hi n e s, o.op = .slice t x lo hi none ∧ P.underlying t = some (.array n e) ∧ sizeP P e = some s ∧ ao = .sliceArr n s lo.isSome hi.isSome ∧ args = x :: lo.toList ++ hi.toList) ∨ oddOp P o = some (ao, args) ∨ compOp0 P o = some (ao, args) := by
  unfold compOp at hc
  split at hc
  · rename_i f l hl
    simp only [Option.some.injEq, Prod.mk.injEq] at hc
    obtain ⟨rfl, rfl⟩ := hc
    left
    unfold extCall at hl
    split at hl <;> first | (cases hl; done) | skip
    rename_i c hop
    split at hl <;> first | (cases hl; done) | skip
    rename_i g hcal
    split at hl <;> first | (cases hl; done) | skip
    obtain ⟨_, e⟩ := bif_true hl
    simp only [Prod.mk.injEq] at e
    obtain ⟨rfl, rfl⟩ := e
    exact ⟨g, c, hop, hcal, rfl, by rw [hop]; simp [Op.operands, Call.operands, hcal]⟩
  · right
    split at hc
    · rename_i r hr
      left
      injection hc with hc
      subst hc
      unfold arrSlice at hr
      split at hr <;> first | (cases hr; done) | skip
      rename_i t x lo hi hop
      split at hr <;> first | (cases hr; done) | skip
      rename_i n e hu
      simp only [Option.map_eq_some_iff, Prod.mk.injEq] at hr
      obtain ⟨s, hs, rfl, rfl⟩ := hr
      exact ⟨t, x, lo, hi, n, e, s, hop, hu, hs, rfl, rfl⟩
    · right
      split at hc
      · rename_i r hr
        left
        injection hc with hc
        subst hc
        exact hr
      · exact .inr hc

/-- Which operations these are. -/
theorem oddOp_cases {P : Program} {o : Oper} {ao : AO} {args : List Operand} (hc : oddOp P o = some (ao, args)) :
    (∃ c x, o.op = .call c ∧ c.callee = .builtin .unsafeSliceData ∧ c.args = #[x] ∧ ao = .usd ∧ args = [x]) ∨
    (∃ c x n t u, o.op = .call c ∧ c.callee = .builtin .unsafeString ∧ c.args = #[x, n] ∧ c.argTypes[0]? = some t ∧ P.underlying t = some (.pointer u) ∧ P.cellsOf u = 1 ∧ ao = .ustr u ∧ args = [x, n]) ∨
    (∃ s d x t n, o.op = .convert s d x ∧ P.underlying s = some (.pointer t) ∧ P.underlying d = some .unsafePointer ∧ sizeP P t = some n ∧ n ≠ 0 ∧ ao = .uto ∧ args = [x]) ∨
    (∃ s d x u n, o.op = .convert s d x ∧ P.underlying s = some .unsafePointer ∧ P.underlying d = some (.pointer u) ∧ sizeP P u = some n ∧ ao = .uof u ∧ args = [x]) ∨
    (∃ t x kt et, o.op = .range t x ∧ P.underlying t = some (.map kt et) ∧ ao = .rangeM ∧ args = [x]) ∨
    (∃ it, o.op = .next it false ∧ ao = .nextM ∧ args = [it]) ∨
    (∃ it, o.op = .entry it ∧ ao = .entryM ∧ args = [it]) := by
  unfold oddOp at hc
  split at hc
  · rename_i c hop
    split at hc
    · rename_i x hcal hargs
      simp only [Option.some.injEq, Prod.mk.injEq] at hc
      obtain ⟨rfl, rfl⟩ := hc
      exact .inl ⟨c, x, hop, hcal, by apply Array.ext'; simpa using hargs, rfl, rfl⟩
    · rename_i x n hcal hargs
      split at hc <;> first | (cases hc; done) | skip
      rename_i u hu
      obtain ⟨h1, h2⟩ := bif_true hc
      simp only [Prod.mk.injEq] at h2
      obtain ⟨rfl, rfl⟩ := h2
      have h1 := Nat.eq_of_beq_eq_true h1
      obtain ⟨t, ht, hu⟩ := Option.bind_eq_some_iff.1 hu
      exact .inr (.inl ⟨c, x, n, t, u, hop, hcal, by apply Array.ext'; simpa using hargs, ht, hu, h1, rfl, rfl⟩)
    · cases hc
  · rename_i s d x hop
    split at hc
    · rename_i t h1 h2
      split at hc <;> first | (cases hc; done) | skip
      rename_i n hn
      cases hb : n.beq 0 with
      | true => rw [hb] at hc; cases hc
      | false =>
        rw [hb] at hc
        simp only [cond_false, Option.some.injEq, Prod.mk.injEq] at hc
        obtain ⟨rfl, rfl⟩ := hc
        exact .inr (.inr (.inl ⟨s, d, x, t, n, hop, h1, h2, hn, by intro e; subst e; simp at hb, rfl, rfl⟩))
    · rename_i u h1 h2
      split at hc <;> first | (cases hc; done) | skip
      rename_i n hn
      cases hb : n.beq 0 with
      | true => rw [hb] at hc; cases hc
      | false =>
        rw [hb] at hc
        simp only [cond_false, Option.some.injEq, Prod.mk.injEq] at hc
        obtain ⟨rfl, rfl⟩ := hc
        exact .inr (.inr (.inr (.inl ⟨s, d, x, u, n, hop, h1, h2, hn, rfl, rfl⟩)))
    · cases hc
  · rename_i t x hop
    split at hc <;> first | (cases hc; done) | skip
    rename_i kt et hu
    simp only [Option.some.injEq, Prod.mk.injEq] at hc
    obtain ⟨rfl, rfl⟩ := hc
    exact .inr (.inr (.inr (.inr (.inl ⟨t, x, kt, et, hop, hu, rfl, rfl⟩))))
  · rename_i it hop
    simp only [Option.some.injEq, Prod.mk.injEq] at hc
    obtain ⟨rfl, rfl⟩ := hc
    exact .inr (.inr (.inr (.inr (.inr (.inl ⟨it, hop, rfl, rfl⟩)))))
  · rename_i it hop
    simp only [Option.some.injEq, Prod.mk.injEq] at hc
    obtain ⟨rfl, rfl⟩ := hc
    exact .inr (.inr (.inr (.inr (.inr (.inr ⟨it, hop, rfl, rfl⟩)))))
  · cases hc

theorem exec_builtin {dst : Option Tmp} {c : Call} {type : TypeId} {pos : String} {after : Array Edge} {guard : Option (Nat × Bool)} {b : Builtin} (h : c.callee = .builtin b) :
    execOp ρ ⟨dst, .call c, type, pos, after, guard⟩ = builtin b c.argTypes type (c.args.map fun | .const _ => true | _ => false) (c.args.map ρ) := by
  simp only [execOp, resolve, h]
  rfl

theorem pstep_sim (hE : EnvOk E) (hρ : Rho ρ) {o : Oper} {ao : AO} {args : List Operand} (hc : compOp E.P o = some (ao, args)) (hcls : ao.cls = .p) {xs : List AV} {x : AV}
    (hx : LRel M xs (args.map ρ)) (hs : pstep E ao xs = some x) : Ans E M w (execOp ρ o) x := by
  rcases compOp_cases hc with ⟨f, c, hop, hcal, rfl, rfl⟩ | h | hodd | h
  · simp only [pstep] at hs
    cases hsame : E.same f with
    | true =>
      rw [hsame, cond_true] at hs
      split at hs <;> first | (cases hs; done) | skip
      rename_i y z
      injection hs with hs; subst hs
      obtain ⟨dst, op, type, pos, after, guard⟩ := o
      simp only at hop
      subst hop
      have hl : (Op.operands (.call c)).toList = .func f :: c.args.toList := by simp [Op.operands, Call.operands, hcal]
      simp only [hl] at hx
      obtain ⟨_, us, e, _, hr⟩ := hx.cons_inv
      simp only [List.map_cons, List.cons.injEq] at e
      obtain ⟨_, rfl⟩ := e
      obtain ⟨v, us', e', hv, hr'⟩ := hr.cons_inv
      have hnil := hr'.nil_inv
      subst hnil
      have hat : c.args.map ρ = #[v] := by apply Array.ext'; simpa using e'
      refine ⟨.value v, v, ?_, rfl, hv⟩
      simp only [execOp, resolve, hcal, hρ.func, Deferred.ofValue, Sem.run_bind, Sem.run_pure, Result.andThen_ok, invoke]
      rw [hat]
      simpa using hE.same f hsame v w
    | false =>
      rw [hsame, cond_false] at hs
      have hsel : ∀ cs b, o.op ≠ .select cs b := fun cs b x => by rw [hop] at x; cases x
      obtain ⟨nx, v, a, b, c⟩ := gen_sim (E := E) (o := o) w hρ.const hρ.global hρ.func hsel hx (by simp only [pstep]; exact hs)
      exact ⟨nx, v, a, b, c⟩
  · obtain ⟨_, _, _, _, _, _, _, _, _, _, rfl, _⟩ := h
    cases hcls
  · obtain ⟨dst, op, type, pos, after, guard⟩ := o
    rcases oddOp_cases hodd with ⟨c, y, hop, hcal, hargs, rfl, rfl⟩ | ⟨_, _, _, _, _, _, _, _, _, _, _, rfl, _⟩ | ⟨_, _, _, _, _, _, _, _, _, _, rfl, _⟩ | ⟨_, _, _, _, _, _, _, _, _, rfl, _⟩ | ⟨_, _, _, _, _, _, rfl, _⟩ | ⟨_, _, rfl, _⟩ | ⟨_, _, rfl, _⟩
    · simp only at hop
      subst hop
      rw [exec_builtin hcal, hargs]
      have := usd_sim (ty := type) (argTypes := c.argTypes) (w := w) hx hs
      simpa [builtin] using this
    all_goals cases hcls
  · exact pstep_sim0 hE hρ h hcls hx hs
theorem lstep_sim {o : Oper} {ao : AO} {args : List Operand} (hc : compOp E.P o = some (ao, args)) (hcls : ao.cls = .l) {xs : List AV} {x : AV}
    (H : HRel E.W0 M F w) (hx : LRel M xs (args.map ρ)) (hs : lstep E ao xs F = some x) : AnsR E M F w (execOp ρ o) x := by
  rcases compOp_cases hc with ⟨_, _, _, _, rfl, _⟩ | h | hodd | h
  · cases hcls
  · obtain ⟨t, y, lo, hi, n, e, s, hop, hu, hn, rfl, rfl⟩ := h
    obtain ⟨dst, op, type, pos, after, guard⟩ := o
    simp only at hop
    subst hop
    exact sliceArr_sim H hu hn hx hs
  · obtain ⟨dst, op, type, pos, after, guard⟩ := o
    rcases oddOp_cases hodd with ⟨_, _, _, _, _, rfl, _⟩ | ⟨_, _, _, _, _, _, _, _, _, _, _, rfl, _⟩ | ⟨s, d, y, t, n, hop, h1, h2, hn, hn0, rfl, rfl⟩ | ⟨s, d, y, u, n, hop, h1, h2, hn, rfl, rfl⟩ | ⟨_, _, _, _, _, _, rfl, _⟩ | ⟨_, _, rfl, _⟩ | ⟨it, hop, rfl, rfl⟩
    · cases hcls
    · cases hcls
    · simp only at hop
      subst hop
      exact uto_sim H h1 h2 hn hn0 hx hs
    · simp only at hop
      subst hop
      exact uof_sim H h1 h2 hn hx hs
    · cases hcls
    · cases hcls
    · simp only at hop
      subst hop
      exact entryM_sim H hx hs
  · exact lstep_sim0 h hcls H hx hs
theorem anew_sim {o : Oper} {ao : AO} {args : List Operand} (hc : compOp E.P o = some (ao, args)) (hcls : ao.cls = .a) {xs : List AV} {x : AV} {k : AB} {b : Nat}
    (H : HRel E.W0 M F w) (hx : LRel M xs (args.map ρ)) (hM : M b = none) (hs : astepNew ao xs b = some (k, x)) : ∃ cb nx v w', AnsN E M F w b k (execOp ρ o) x cb nx v w' := by
  rcases compOp_cases hc with ⟨_, _, _, _, rfl, _⟩ | h0 | hodd | h0
  · cases hcls
  · obtain ⟨_, _, _, _, _, _, _, _, _, _, rfl, _⟩ := h0
    cases hcls
  · rcases oddOp_cases hodd with ⟨_, _, _, _, _, rfl, _⟩ | ⟨_, _, _, _, _, _, _, _, _, _, _, rfl, _⟩ | ⟨_, _, _, _, _, _, _, _, _, _, rfl, _⟩ | ⟨_, _, _, _, _, _, _, _, _, rfl, _⟩ | ⟨_, _, _, _, _, _, rfl, _⟩ | ⟨_, _, rfl, _⟩ | ⟨_, _, rfl, _⟩ <;> cases hcls
  · exact anew_sim0 h0 hcls H hx hM hs
theorem wstep_sim {o : Oper} {ao : AO} {args : List Operand} (hc : compOp E.P o = some (ao, args)) (hcls : ao.cls = .w) {xs : List AV} {x : AV} {h' : H}
    (K : HRel E.W0 M h.get w) (hx : LRel M xs (args.map ρ)) (hfr : Fresh M h.len h'.len) (hs : wstep E ao xs h = some (x, h')) : AnsW E M h w (execOp ρ o) x h' := by
  rcases compOp_cases hc with ⟨_, _, _, _, rfl, _⟩ | h0 | hodd | h0
  · cases hcls
  · obtain ⟨_, _, _, _, _, _, _, _, _, _, rfl, _⟩ := h0
    cases hcls
  · obtain ⟨dst, op, type, pos, after, guard⟩ := o
    rcases oddOp_cases hodd with ⟨_, _, _, _, _, rfl, _⟩ | ⟨c, y, n, t, u, hop, hcal, hargs, ht, hu, h1, rfl, rfl⟩ | ⟨_, _, _, _, _, _, _, _, _, _, rfl, _⟩ | ⟨_, _, _, _, _, _, _, _, _, rfl, _⟩ | ⟨t, y, kt, et, hop, hu, rfl, rfl⟩ | ⟨it, hop, rfl, rfl⟩ | ⟨_, _, rfl, _⟩
    · cases hcls
    · simp only at hop
      subst hop
      rw [exec_builtin hcal, hargs]
      have := ustr_sim (ty := type) K ht hu h1 hx hs
      simpa [builtin] using this
    · cases hcls
    · cases hcls
    · simp only at hop
      subst hop
      exact rangeM_sim K hu hfr hx hs
    · simp only at hop
      subst hop
      exact nextM_sim K hx hs
    · cases hcls
  · exact wstep_sim0 h0 hcls K hx hfr hs
theorem callTarget_sim (hE : EnvOk E) {o : Oper} {ao : AO} {args : List Operand} (hc : compOp E.P o = some (ao, args)) {xs ys : List AV} {f : FuncId} (hρ : Rho ρ)
    (hx : LRel M xs (args.map ρ)) (hs : callTarget E ao xs = some (f, ys)) : ∃ vs : Array Value, (execOp ρ o).run E.P w = .ok (.enter f vs) w ∧ LRel M ys vs.toList := by
  rcases compOp_cases hc with ⟨_, _, _, _, rfl, _⟩ | h0 | hodd | h0
  · simp [callTarget] at hs
  · obtain ⟨_, _, _, _, _, _, _, _, _, _, rfl, _⟩ := h0
    simp [callTarget] at hs
  · rcases oddOp_cases hodd with ⟨_, _, _, _, _, rfl, _⟩ | ⟨_, _, _, _, _, _, _, _, _, _, _, rfl, _⟩ | ⟨_, _, _, _, _, _, _, _, _, _, rfl, _⟩ | ⟨_, _, _, _, _, _, _, _, _, rfl, _⟩ | ⟨_, _, _, _, _, _, rfl, _⟩ | ⟨_, _, rfl, _⟩ | ⟨_, _, rfl, _⟩ <;> simp [callTarget] at hs
  · exact callTarget_sim0 hE h0 hρ hx hs
end
end Go.Sx
