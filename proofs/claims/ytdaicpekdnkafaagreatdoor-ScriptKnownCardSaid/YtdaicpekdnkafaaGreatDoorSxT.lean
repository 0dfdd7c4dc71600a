import Derived.Test.YtdaicpekdnkafaaGreatDoorSxS
namespace Go.Sx
open Go Go.RowKit
section
variable {E : Env} {ρ : Operand → Value} {M : BMap} {h : H} {w : World}

theorem callFunc_run (hE : EnvOk E) {f : FuncId} (hf : E.okFn f = true) (args : Array Value) (w : World) : (callFunc f args).run E.P w = .ok (.enter f args) w := by
  obtain ⟨fn, h1, h2, h3⟩ := hE.fn f hf
  have h2' : fn.name ≠ "runtime.NumGoroutine" := by simpa using h2
  have h3' : fn.body ≠ none := by intro e; rw [e] at h3; cases h3
  simp [callFunc, h1, h2', h3']

theorem callMethod_run (hE : EnvOk E) {t : TypeId} {name : String} {f : FuncId} (hm : E.meth t name = some f) (hf : E.okFn f = true) (v : Value) (args : Array Value) (w : World) :
    (callMethod (.iface t v) name args).run E.P w = .ok (.enter f (#[v] ++ args)) w := by
  have := (hE.meth t name f hm v w).2
  simp only [callMethod, Sem.run_bind, run_program, Result.andThen_ok, this, callFunc_run hE hf]

theorem iface_inv {t : TypeId} {x : AV} {v : Value} (h : VRel M (.iface t x) v) : ∃ u, v = .iface t u ∧ VRel M x u := by
  cases h with
  | iface h => exact ⟨_, rfl, h⟩
theorem fn_inv {f : Fn} {l k : List AV} {v : Value} (h : VRel M (.fn f l k) v) : ∃ vs us, v = .func f vs us ∧ LRel M l vs.toList ∧ LRel M k us.toList := by
  cases h with
  | fn hn hh hn' hh' => exact ⟨_, _, rfl, ⟨by simpa using hn, fun i x v a b => hh i x v a (by simpa using b)⟩, ⟨by simpa using hn', fun i x v a b => hh' i x v a (by simpa using b)⟩⟩

theorem first_cons (u : Value) (A : Array Value) : (#[u] ++ A)[0]? = some u := by
  rw [Array.getElem?_append_left (by simp)]; rfl
theorem extract_cons (u : Value) (A : Array Value) : (#[u] ++ A).extract 1 (#[u] ++ A).size = A := by
  apply Array.ext'
  simp [List.take_of_length_le]

/-- A call enters the function that the deterministic reading calls, with its arguments. -/
theorem callTarget_sim0 (hE : EnvOk E) {o : Oper} {ao : AO} {args : List Operand} (hc : compOp0 E.P o = some (ao, args)) {xs ys : List AV} {f : FuncId} (hρ : Rho ρ)
    (hx : LRel M xs (args.map ρ)) (hs : callTarget E ao xs = some (f, ys)) : ∃ vs : Array Value, (execOp ρ o).run E.P w = .ok (.enter f vs) w ∧ LRel M ys vs.toList := by
  obtain ⟨dst, op, type, pos, after, guard⟩ := o
  have hw : ao.cls = .w := by
    cases ao <;> simp [callTarget] at hs <;> rfl
  cases op
  case call c =>
    simp only [compOp0] at hc
    split at hc
    · simp only [Option.some.injEq, Prod.mk.injEq] at hc
      rw [← hc.1] at hw; cases hw
    · simp only [Option.some.injEq, Prod.mk.injEq] at hc
      rw [← hc.1] at hw; cases hw
    · simp only [compCall] at hc
      split at hc
      · rename_i g hcal
        simp only [Option.some.injEq, Prod.mk.injEq] at hc
        obtain ⟨rfl, rfl⟩ := hc
        simp only [callTarget] at hs
        obtain ⟨hf, e⟩ := bif_true hs
        injection e with e1 e2
        subst e1 e2
        refine ⟨c.args.map ρ, ?_, by simpa using hx⟩
        simp only [execOp, resolve, hcal, hρ.func, Deferred.ofValue, Sem.run_bind, Sem.run_pure, Result.andThen_ok, invoke]
        rw [callFunc_run hE hf]
        simp
      · rename_i y _ hcal
        simp only [Option.some.injEq, Prod.mk.injEq] at hc
        obtain ⟨rfl, rfl⟩ := hc
        obtain ⟨x, l, rfl, hy, hr⟩ := LRel.invC (by simpa using hx)
        cases x <;> simp only [callTarget] at hs <;> first | (cases hs; done) | skip
        rename_i g first caps
        cases g with
        | func g =>
          simp only at hs
          obtain ⟨hf, e⟩ := bif_true hs
          injection e with e1 e2
          subst e1 e2
          obtain ⟨vs, us, e, p, q⟩ := fn_inv hy
          refine ⟨vs ++ c.args.map ρ ++ us, ?_, ?_⟩
          · simp only [execOp, resolve, hcal, e, Deferred.ofValue, Sem.run_bind, Sem.run_pure, Result.andThen_ok, invoke]
            rw [callFunc_run hE hf]
          · simp only [Array.toList_append]
            exact (p.append (by simpa using hr)).append q
        | method name =>
          cases first with
          | nil => simp at hs
          | cons x0 first =>
            cases first with
            | cons _ _ => cases x0 <;> simp at hs
            | nil =>
              cases caps with
              | cons _ _ => cases x0 <;> simp at hs
              | nil =>
                cases x0 <;> simp only at hs <;> first | (cases hs; done) | skip
                rename_i t x0
                cases hm : E.meth t name with
                | none => rw [hm] at hs; cases hs
                | some g =>
                  rw [hm] at hs
                  obtain ⟨hf, e⟩ := bif_true hs
                  injection e with e1 e2
                  subst e1 e2
                  obtain ⟨vs, us, e, p, q⟩ := fn_inv hy
                  obtain ⟨u, ul, hul, hu, hnil⟩ := p.cons_inv
                  obtain ⟨u', rfl, hu'⟩ := iface_inv hu
                  have hnil' := hnil.nil_inv
                  subst hnil'
                  have hvs : vs = #[.iface t u'] := by apply Array.ext'; simpa using hul
                  subst hvs
                  refine ⟨#[u'] ++ c.args.map ρ, ?_, ?_⟩
                  · simp only [execOp, resolve, hcal, e, Deferred.ofValue, Sem.run_bind, Sem.run_pure, Result.andThen_ok, invoke]
                    simp only [first_cons, extract_cons]
                    exact callMethod_run hE hm hf _ _ w
                  · simp only [Array.toList_append]
                    exact LRel.cons hu' (by simpa using hr)
        | _ => simp at hs
      · rename_i r name hcal
        simp only [Option.some.injEq, Prod.mk.injEq] at hc
        obtain ⟨rfl, rfl⟩ := hc
        obtain ⟨x, l, rfl, hy, hr⟩ := LRel.invC (by simpa using hx)
        cases x <;> simp only [callTarget] at hs <;> first | (cases hs; done) | skip
        rename_i t x0
        cases hm : E.meth t name with
        | none => rw [hm] at hs; cases hs
        | some g =>
          rw [hm] at hs
          obtain ⟨hf, e⟩ := bif_true hs
          injection e with e1 e2
          subst e1 e2
          obtain ⟨u', e, hu'⟩ := iface_inv hy
          refine ⟨#[u'] ++ c.args.map ρ, ?_, ?_⟩
          · simp only [execOp, resolve, hcal, Sem.run_bind, Sem.run_pure, Result.andThen_ok, invoke, e]
            simp only [first_cons, extract_cons]
            exact callMethod_run hE hm hf _ _ w
          · simp only [Array.toList_append]
            exact LRel.cons hu' (by simpa using hr)
      · exfalso
        iterate 6 (all_goals try split at hc)
        all_goals try (cases hc; done)
        all_goals try (simp only [Option.some.injEq, Prod.mk.injEq] at hc; rw [← hc.1] at hs; simp [callTarget] at hs; done)
        all_goals try (simp only [Option.map_eq_some_iff, Prod.mk.injEq] at hc; obtain ⟨_, _, h9, _⟩ := hc; rw [← h9] at hs; simp [callTarget] at hs; done)
        all_goals
          obtain ⟨_, hc'⟩ := bif_true hc
          injection hc' with h8 h9
          rw [← h8] at hs
          first
          | (simp [callTarget] at hs; done)
          | (revert hs; cases isIntD _ <;> intro hs <;> simp [callTarget] at hs)
  case makeMap t r => exfalso; cases r <;> simp [compOp0] at hc; rw [← hc.1] at hs; simp [callTarget] at hs
  case next it b => exfalso; cases b <;> simp [compOp0] at hc; rw [← hc.1] at hs; simp [callTarget] at hs
  case slice t a lo hi mx =>
    exfalso
    cases mx with
    | some m => simp [compOp0] at hc
    | none =>
      simp only [compOp0] at hc
      split at hc
      · simp only [Option.some.injEq, Prod.mk.injEq] at hc
        rw [← hc.1] at hw; cases hw
      · simp only [Option.map_eq_some_iff, Prod.mk.injEq] at hc
        obtain ⟨_, _, h9, _⟩ := hc; rw [← h9] at hw; cases hw
      · cases hc
  all_goals
    exfalso
    simp only [compOp0, Bool.cond_eq_ite] at hc
    iterate 5 (all_goals try split at hc)
    all_goals try (cases hc; done)
    all_goals try (simp only [Option.some.injEq, Prod.mk.injEq] at hc; rw [← hc.1] at hs; simp [callTarget] at hs; done)
    all_goals try (simp only [Option.map_eq_some_iff, Prod.mk.injEq] at hc; obtain ⟨_, _, h9, _⟩ := hc; rw [← h9] at hs; simp [callTarget] at hs; done)

theorem firstCells_det {P : Program} {sz n d : Nat} {v : Value} {w : World} {a b : Array Value} (h1 : (Builtin.firstCells sz n v).run P w = .ok a w)
    (h2 : (Builtin.firstCells sz n v).run P { w with drawn := d } = .ok b { w with drawn := d }) : b = a := by
  cases v <;> simp only [Builtin.firstCells] at h1 h2
  case string s => simp at h1 h2; rw [← h1, ← h2]
  case slice p l c =>
    cases p with
    | none => simp at h1 h2; rw [h1, h2]
    | some p =>
      simp only at h1 h2
      have key : ∀ (n i : Nat) (acc a b : Array Value), (loadCellsFrom p i n acc).run P w = .ok a w → (loadCellsFrom p i n acc).run P { w with drawn := d } = .ok b { w with drawn := d } → b = a := by
        intro n
        induction n with
        | zero => intro i acc a b h1 h2; simp [loadCellsFrom] at h1 h2; rw [← h1, ← h2]
        | succ n ih =>
          intro i acc a b h1 h2
          simp only [loadCellsFrom, Sem.run_bind, run_load] at h1 h2
          have e : ({ w with drawn := d } : World).cell? (p.add i) = w.cell? (p.add i) := rfl
          rw [e] at h2
          cases hc : w.cell? (p.add i) with
          | some v => rw [hc] at h1 h2; exact ih _ _ _ _ h1 h2
          | none =>
            rw [hc] at h1 h2
            have ef : ({ w with drawn := d } : World).farLoad P (p.add i) (Mode.plain == Mode.atomic) = w.farLoad P (p.add i) (Mode.plain == Mode.atomic) := rfl
            rw [ef] at h2
            cases hf : w.farLoad P (p.add i) (Mode.plain == Mode.atomic) with
            | error e => rw [hf] at h1; simp at h1
            | ok r => obtain ⟨v, ads⟩ := r; rw [hf] at h1 h2; exact ih _ _ _ _ h1 h2
      exact key (n * sz) 0 #[] a b h1 h2
  all_goals simp at h1

/-- Every operation that writes, but for calls. -/
theorem wstep_sim0 {o : Oper} {ao : AO} {args : List Operand} (hc : compOp0 E.P o = some (ao, args)) (hcls : ao.cls = .w) {xs : List AV} {x : AV} {h' : H}
    (K : HRel E.W0 M h.get w) (hx : LRel M xs (args.map ρ)) (hfr : Fresh M h.len h'.len) (hs : wstep E ao xs h = some (x, h')) : AnsW E M h w (execOp ρ o) x h' := by
  obtain ⟨dst, op, type, pos, after, guard⟩ := o
  cases op
  case store t a b =>
    simp only [compOp0, Option.map_eq_some_iff, Prod.mk.injEq] at hc
    obtain ⟨n, hn, rfl, rfl⟩ := hc
    exact store_sim K hn hx hs
  case mapUpdate t a b c =>
    simp only [compOp0] at hc
    split at hc <;> first | (cases hc; done) | skip
    rename_i kt e hu
    split at hc <;> first | (cases hc; done) | skip
    rename_i d hd
    obtain ⟨hk, hc'⟩ := bif_true hc
    clear hc
    injection hc' with h8 h9
    subst h8 h9
    exact mapUpd_sim K hu hd hk hx hs
  case insert t a b c =>
    simp only [compOp0] at hc
    split at hc <;> first | (cases hc; done) | skip
    rename_i kt e hu
    split at hc <;> first | (cases hc; done) | skip
    rename_i d hd
    obtain ⟨hk, hc'⟩ := bif_true hc
    clear hc
    injection hc' with h8 h9
    subst h8 h9
    exact mapUpd_sim K hu hd hk hx hs
  case next it b =>
    cases b with
    | false => simp [compOp0] at hc
    | true =>
      simp only [compOp0, Option.some.injEq, Prod.mk.injEq] at hc
      obtain ⟨rfl, rfl⟩ := hc
      exact next_sim K hx hs
  case call c =>
    simp only [compOp0] at hc
    split at hc
    · simp only [Option.some.injEq, Prod.mk.injEq] at hc
      rw [← hc.1] at hcls; cases hcls
    · simp only [Option.some.injEq, Prod.mk.injEq] at hc
      rw [← hc.1] at hcls; cases hcls
    · simp only [compCall] at hc
      split at hc
      · simp only [Option.some.injEq, Prod.mk.injEq] at hc
        rw [← hc.1] at hs; simp [wstep] at hs
      · simp only [Option.some.injEq, Prod.mk.injEq] at hc
        rw [← hc.1] at hs; simp [wstep] at hs
      · simp only [Option.some.injEq, Prod.mk.injEq] at hc
        rw [← hc.1] at hs; simp [wstep] at hs
      · rename_i b hcal
        have hexec : ∀ b, c.callee = .builtin b → ∀ as, c.args = as → execOp ρ ⟨dst, .call c, type, pos, after, guard⟩ = builtin b c.argTypes type (c.args.map fun | .const _ => true | _ => false) (as.map ρ) := by
          intro b hb as has
          subst has
          simp only [execOp, resolve, hb]
          rfl
        split at hc
        · exfalso
          iterate 3 (all_goals try split at hc)
          all_goals try (cases hc; done)
          all_goals (simp only [Option.some.injEq, Prod.mk.injEq] at hc; rw [← hc.1] at hcls; cases hcls; done)
        · split at hc <;> first | (cases hc; done) | skip
          rename_i s y t u hargs ht hu
          have hat : c.args = #[s, y] := by apply Array.ext'; simpa using hargs
          split at hc <;> first | (cases hc; done) | skip
          rename_i e d hte hud
          split at hc <;> first | (cases hc; done) | skip
          rename_i i z hi hz
          obtain ⟨hp, hc'⟩ := bif_true hc
          clear hc
          injection hc' with h8 h9
          subst h9
          simp only [Bool.and_eq_true, Bool.not_eq_true'] at hp
          obtain ⟨hp1, hp2⟩ := hp
          have hp1 : i.bytes ≠ 0 := by intro e0; rw [e0] at hp1; simp at hp1
          have hp2 := Nat.eq_of_beq_eq_true hp2
          obtain ⟨i', zv, hi', hzv, hzc⟩ := zeroOf_spec hz
          rw [hi] at hi'; injection hi' with hi'; subst hi'
          have hzs : zv.cells.size = i.size := by rw [← hp2, hzc]; simp
          rw [hexec _ hcal _ hat]
          have hb2 : builtin .append c.argTypes type (c.args.map fun | .const _ => true | _ => false) (#[s, y].map ρ) = (do pure (.value (← Builtin.append_ c.argTypes type #[ρ s, ρ y]))) := by
            simp [builtin]
          rw [hb2]
          obtain ⟨xs0, xs1, rfl, hx0, hx1⟩ := hx.inv2
          cases hint : isIntD d with
          | false =>
            rw [hint, cond_false] at h8
            subst h8
            simp only [wstep] at hs
            cases hr : rdSlice E h.get xs1 i.size with
            | none => rw [hr] at hs; cases hs
            | some pr =>
              obtain ⟨n, new⟩ := pr
              rw [hr] at hs
              simp only at hs
              obtain ⟨r1, r2, ⟨arr, r3, r4⟩, _⟩ := rdSlice_spec K hx1 hr
              have hsome : ∃ b l cap, ρ s = .slice b l cap := by
                clear hexec hb2
                generalize ρ s = rs at hx0 hx
                cases hx0 with
                | c v =>
                  cases rs <;> simp [appendTo] at hs
                  exact ⟨_, _, _, rfl⟩
                | sl => exact ⟨_, _, _, rfl⟩
                | _ => simp [appendTo] at hs
              have hfc : ∀ d : Nat, (Builtin.firstCells i.size n (ρ y)).run E.P { w with drawn := d } = .ok arr { w with drawn := d } := by
                intro d
                have K1 : HRel E.W0 M h.get { w with drawn := d } := ⟨K.has, K.inj, K.bnd, ⟨K.old.os, K.old.tape, K.old.output, K.old.size, K.old.block⟩⟩
                obtain ⟨_, _, ⟨arr2, r5, r6⟩, _⟩ := rdSlice_spec K1 hx1 hr
                rw [r5]
                have e := firstCells_det r3 r5
                rw [e]
              refine append_core K hzs hs hx0 hfr r4 (fun hn => ?_) (fun base l cap w' hb hle hst => ?_) (fun base l cap old hb hle hbd hold => ?_)
              · subst hn
                have := r4.1
                apply Array.ext'
                apply List.eq_nil_of_length_eq_zero
                simp at r2; simp [r2] at this; simpa using this
              · rw [hb]; exact append_in ht hu hte hud hint hi type base l cap (ρ y) r1 r3 hle hst
              · rw [hb]; exact append_out ht hu hte hud hint hi type base l cap (ρ y) r1 hfc (by rw [← hb]; exact hold) hzv hle hp1 hbd
          | true =>
            rw [hint, cond_true] at h8
            subst h8
            cases xs1 <;> simp only [wstep] at hs <;> first | (cases hs; done) | skip
            rename_i u1
            cases u1 <;> (try simp only at hs) <;> first | (cases hs; done) | skip
            rename_i kk iv
            cases kk <;> (try simp only at hs) <;> first | (cases hs; done) | skip
            cases hb : (decide (0 ≤ iv) && decide (iv < 2 ^ 48) && decide (iv * i.bytes ≤ 2 ^ 48) && z.length.beq i.size) with
            | false => rw [hb] at hs; cases hs
            | true =>
              rw [hb, cond_true] at hs
              simp only [Bool.and_eq_true, decide_eq_true_eq] at hb
              obtain ⟨⟨⟨b1, b2⟩, b3⟩, b4⟩ := hb
              rw [hx1.c_inv]
              let arr : Array Value := if iv.toNat * i.size = 0 then #[] else Builtin.zeroCells zv.cells iv.toNat
              have harr : LRel M ((List.replicate iv.toNat z).flatten) arr.toList := by
                by_cases h0 : iv.toNat * i.size = 0
                · have e : arr = #[] := by simp [arr, h0]
                  have e2 : (List.replicate iv.toNat z).flatten = [] := by apply List.eq_nil_of_length_eq_zero; simp [hp2]; simpa using h0
                  rw [e, e2]; exact LRel.nil
                · have e : arr.toList = (List.replicate iv.toNat zv.cells.toList).flatten := by
                    simp only [arr, if_neg h0, Builtin.zeroCells]
                    exact range_mod zv.cells iv.toNat
                  rw [e, hzc]; exact replicate_rel (LRel.consts _) _
              refine append_core K hzs hs hx0 hfr harr (fun hn => by simp [arr, hn]) (fun base l cap w' hb hle hst => ?_) (fun base l cap old hb hle hbd hold => ?_)
              · rw [hb]; exact append_inZ ht hu hte hud hint hi type base l cap .i64 hzv b1 b2 rfl b3 rfl hle hst
              · rw [hb]; exact append_outZ ht hu hte hud hint hi type base l cap .i64 b1 b2 rfl b3 rfl (by rw [← hb]; exact hold) hzv hle hp1 hbd
        · split at hc <;> first | (cases hc; done) | skip
          rename_i s y t hargs ht
          have hat : c.args = #[s, y] := by apply Array.ext'; simpa using hargs
          split at hc <;> first | (cases hc; done) | skip
          rename_i e hu
          simp only [Option.map_eq_some_iff, Prod.mk.injEq] at hc
          obtain ⟨n, hn, rfl, rfl⟩ := hc
          rw [hexec _ hcal _ hat]
          have hb2 : builtin .copy c.argTypes type (c.args.map fun | .const _ => true | _ => false) (#[s, y].map ρ) = (do pure (.value (← Builtin.copy_ c.argTypes type #[ρ s, ρ y]))) := by
            simp [builtin]
          rw [hb2]
          exact copy_sim K ht hu hn hx hs
        · split at hc <;> first | (cases hc; done) | skip
          rename_i m k t hargs ht
          have hat : c.args = #[m, k] := by apply Array.ext'; simpa using hargs
          split at hc <;> first | (cases hc; done) | skip
          rename_i kt e hu
          split at hc <;> first | (cases hc; done) | skip
          rename_i d hd
          obtain ⟨hk, hc'⟩ := bif_true hc
          clear hc
          injection hc' with h8 h9
          subst h8 h9
          rw [hexec _ hcal _ hat]
          have hb2 : builtin .delete c.argTypes type (c.args.map fun | .const _ => true | _ => false) (#[m, k].map ρ) = (do pure (.value (← Builtin.delete_ c.argTypes type #[ρ m, ρ k]))) := by
            simp [builtin]
          rw [hb2]
          exact delete_sim K ht hu hd hk hx hs
        · split at hc <;> first | (cases hc; done) | skip
          rename_i m t hargs ht
          have hat : c.args = #[m] := by apply Array.ext'; simpa using hargs
          have hb2 : builtin .clear c.argTypes type (c.args.map fun | .const _ => true | _ => false) (#[m].map ρ) = (do pure (.value (← Builtin.clear_ c.argTypes type #[ρ m]))) := by
            simp [builtin]
          split at hc <;> first | (cases hc; done) | skip
          · rename_i kt e hu
            simp only [Option.some.injEq, Prod.mk.injEq] at hc
            obtain ⟨rfl, rfl⟩ := hc
            rw [hexec _ hcal _ hat]
            rw [hb2]
            exact clear_sim K ht hu hx hs
          · rename_i e hu
            split at hc <;> first | (cases hc; done) | skip
            rename_i n z hn hz
            simp only [Option.some.injEq, Prod.mk.injEq] at hc
            obtain ⟨rfl, rfl⟩ := hc
            rw [hexec _ hcal _ hat]
            rw [hb2]
            exact clearS_sim K ht hu hz hx hs
        · cases hc
  case makeMap t r => exfalso; cases r <;> simp [compOp0] at hc; rw [← hc.1] at hs; simp [wstep] at hs
  case slice t a lo hi mx =>
    exfalso
    cases mx with
    | some m => simp [compOp0] at hc
    | none =>
      simp only [compOp0] at hc
      split at hc
      · simp only [Option.some.injEq, Prod.mk.injEq] at hc
        rw [← hc.1] at hcls; cases hcls
      · simp only [Option.map_eq_some_iff, Prod.mk.injEq] at hc
        obtain ⟨_, _, h9, _⟩ := hc; rw [← h9] at hcls; cases hcls
      · cases hc
  all_goals
    exfalso
    simp only [compOp0, Bool.cond_eq_ite] at hc
    iterate 5 (all_goals try split at hc)
    all_goals try (cases hc; done)
    all_goals try (simp only [Option.some.injEq, Prod.mk.injEq] at hc; rw [← hc.1] at hcls; cases hcls; done)
    all_goals try (simp only [Option.map_eq_some_iff, Prod.mk.injEq] at hc; obtain ⟨_, _, h9, _⟩ := hc; rw [← h9] at hcls; cases hcls; done)
end
end Go.Sx
