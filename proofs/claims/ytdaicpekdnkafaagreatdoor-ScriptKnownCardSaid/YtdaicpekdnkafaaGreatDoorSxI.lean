import Derived.Test.YtdaicpekdnkafaaGreatDoorSxH
namespace Go.Sx
open Go Go.RowKit
section
variable {E : Env} {ρ : Operand → Value} {M : BMap} {w : World}

theorem fieldPlaces_spec {P : Program} : ∀ {l : List Field} {pl : List (Nat × Nat)}, fieldPlaces P l = some pl →
    pl.length = l.length ∧ ∀ (i : Nat) f, l[i]? = some f → ∃ n, sizeP P f.type = some n ∧ pl[i]? = some (f.offset, n) := by
  intro l
  induction l with
  | nil => intro pl h; simp [fieldPlaces] at h; subst h; simp
  | cons f l ih =>
    intro pl h
    simp only [fieldPlaces] at h
    cases hn : sizeP P f.type with
    | none => simp [hn] at h
    | some n =>
      cases hr : fieldPlaces P l with
      | none => simp [hn, hr] at h
      | some r =>
        simp [hn, hr] at h; subst h
        obtain ⟨a, b⟩ := ih hr
        refine ⟨by simp [a], fun i g hi => ?_⟩
        cases i with
        | zero => simp at hi; subst hi; exact ⟨n, hn, rfl⟩
        | succ i => simpa using b i g (by simpa using hi)

theorem places_run {P : Program} (w : World) : ∀ (l : List Field) {pl : List (Nat × Nat)}, fieldPlaces P l = some pl →
    (l.mapM (fun f => do pure (f.offset, ← sizeOf f.type)) : Sem (List (Nat × Nat))).run P w = .ok pl w := by
  intro l
  induction l with
  | nil => intro pl h; simp [fieldPlaces] at h; subst h; simp
  | cons f l ih =>
    intro pl h
    simp only [fieldPlaces] at h
    cases hn : sizeP P f.type with
    | none => simp [hn] at h
    | some n =>
      cases hr : fieldPlaces P l with
      | none => simp [hn, hr] at h
      | some r =>
        simp [hn, hr] at h; subst h
        rw [List.mapM_cons]
        simp only [Sem.run_bind, run_sizeOf' w hn, Result.andThen_ok, Sem.run_pure, ih hr]

theorem pickPlaces_spec {pl : List (Nat × Nat)} : ∀ {l : List (Nat × Operand)} {ps : List (Nat × Nat)}, pickPlaces pl l = some ps →
    ps.length = l.length ∧ ∀ (i : Nat) p q, ps[i]? = some p → l[i]? = some q → pl[q.1]? = some p := by
  intro l
  induction l with
  | nil => intro ps h; simp [pickPlaces] at h; subst h; simp
  | cons f l ih =>
    intro ps h
    obtain ⟨j, y⟩ := f
    simp only [pickPlaces] at h
    cases hn : pl[j]? with
    | none => simp [hn] at h
    | some n =>
      cases hr : pickPlaces pl l with
      | none => simp [hn, hr] at h
      | some r =>
        simp [hn, hr] at h; subst h
        obtain ⟨a, b⟩ := ih hr
        refine ⟨by simp [a], fun i p q hi hq => ?_⟩
        cases i with
        | zero => simp at hi hq; subst hi hq; exact hn
        | succ i => exact b i p q (by simpa using hi) (by simpa using hq)

theorem zeroOf_spec {P : Program} {t : TypeId} {z : List AV} (h : zeroOf P t = some z) : ∃ i v, P.info? t = some i ∧ i.zero = some v ∧ z = v.cells.toList.map .c := by
  simp only [zeroOf, Option.map_eq_some_iff, Option.bind_eq_some_iff] at h
  obtain ⟨v, ⟨i, hi, hz⟩, rfl⟩ := h
  exact ⟨i, v, hi, hz, rfl⟩

theorem buildS_run {P : Program} {t : TypeId} {fs : Array Field} {pl : List (Nat × Nat)} {i : TypeInfo} {zv : Value} (hu : P.underlying t = some (.struct fs)) (hi : P.info? t = some i) (hz : i.zero = some zv)
    (hp : fieldPlaces P fs.toList = some pl) (parts : Array (Nat × Value)) {cells : Array Value} (w : World)
    (hf : Instr.fill (fun j => pl[j]?) zv.cells parts.toList = some cells) : (Instr.build t parts).run P w = .ok (.agg cells) w := by
  have hm : (fs.mapM (fun f => do pure (f.offset, ← sizeOf f.type)) : Sem (Array (Nat × Nat))).run P w = .ok pl.toArray w := by
    rw [Array.mapM_eq_mapM_toList, Sem.run_map, places_run w _ hp]; rfl
  have hf' : Instr.fill (fun x => pl.toArray[x]?) zv.cells parts.toList = some cells := by
    rw [← hf]; congr 1; funext j; simp
  simp only [Instr.build, Sem.run_bind, run_zeroValue w hi hz, Result.andThen_ok, run_underlying hu, hm, hf', Sem.run_pure]

theorem buildA_run {P : Program} {t e : TypeId} {n len : Nat} {i : TypeInfo} {zv : Value} (hu : P.underlying t = some (.array len e)) (hi : P.info? t = some i) (hz : i.zero = some zv)
    (hn : sizeP P e = some n) (parts : Array (Nat × Value)) {cells : Array Value} (w : World)
    (hf : Instr.fill (fun j => some (j * n, n)) zv.cells parts.toList = some cells) : (Instr.build t parts).run P w = .ok (.agg cells) w := by
  simp only [Instr.build, Sem.run_bind, run_zeroValue w hi hz, Result.andThen_ok, run_underlying hu, run_sizeOf' w hn, hf, Sem.run_pure]

/-- Every operation that looks at no memory. -/
theorem pstep_sim0 (hE : EnvOk E) (hρ : Rho ρ) {o : Oper} {ao : AO} {args : List Operand} (hc : compOp0 E.P o = some (ao, args)) (hcls : ao.cls = .p) {xs : List AV} {x : AV}
    (hx : LRel M xs (args.map ρ)) (hs : pstep E ao xs = some x) : Ans E M w (execOp ρ o) x := by
  have hsel := isSelect hc
  obtain ⟨dst, op, type, pos, after, guard⟩ := o
  have viaGen : ∀ {l : List Operand}, ao = .gen ⟨dst, op, type, pos, after, guard⟩ → args = l → op.operands.toList = l → Ans E M w (execOp ρ ⟨dst, op, type, pos, after, guard⟩) x := by
    intro l h1 h2 h3
    subst h1 h2
    obtain ⟨nx, v, a, b, c⟩ := gen_sim (E := E) (o := ⟨dst, op, type, pos, after, guard⟩) w hρ.const hρ.global hρ.func hsel (by rw [h3]; exact hx) hs
    exact ⟨nx, v, a, b, c⟩
  cases op
  case move a =>
    simp only [compOp0, Option.some.injEq, Prod.mk.injEq] at hc
    obtain ⟨rfl, rfl⟩ := hc
    obtain ⟨y, rfl, hy⟩ := hx.inv1
    simp only [pstep] at hs; injection hs with hs; subst hs
    exact ans_val (v := ρ a) rfl hy
  case assign a =>
    simp only [compOp0, Option.some.injEq, Prod.mk.injEq] at hc
    obtain ⟨rfl, rfl⟩ := hc
    obtain ⟨y, rfl, hy⟩ := hx.inv1
    simp only [pstep] at hs; injection hs with hs; subst hs
    exact ans_val (v := ρ a) rfl hy
  case pick a b c =>
    simp only [compOp0, Option.some.injEq, Prod.mk.injEq] at hc
    obtain ⟨rfl, rfl⟩ := hc
    exact pick_sim hx hs
  case nilCheck a =>
    simp only [compOp0, Option.some.injEq, Prod.mk.injEq] at hc
    obtain ⟨rfl, rfl⟩ := hc
    exact nilCheck_sim hE rfl hx hs
  case binOp op t a b yt =>
    simp only [compOp0, Option.some.injEq, Prod.mk.injEq] at hc
    obtain ⟨rfl, rfl⟩ := hc
    exact bin_sim rfl hx hs
  case unOp op t a =>
    simp only [compOp0, Option.some.injEq, Prod.mk.injEq] at hc
    exact viaGen hc.1.symm hc.2.symm rfl
  case index t a b =>
    simp only [compOp0, Option.some.injEq, Prod.mk.injEq] at hc
    exact viaGen hc.1.symm hc.2.symm rfl
  case convert s d a =>
    simp only [compOp0] at hc
    split at hc
    · rename_i sd k h1 h2
      simp only [Option.some.injEq, Prod.mk.injEq] at hc
      obtain ⟨rfl, rfl⟩ := hc
      exact conv_sim h1 h2 hx hs
    · split at hc <;> first | (cases hc; done) | skip
      simp only [Option.some.injEq, Prod.mk.injEq] at hc
      rw [← hc.1] at hcls; cases hcls
    · split at hc <;> first | (cases hc; done) | skip
      simp only [Option.some.injEq, Prod.mk.injEq] at hc
      rw [← hc.1] at hcls; cases hcls
    · split at hc <;> first | (cases hc; done) | skip
      obtain ⟨_, hc⟩ := bif_true hc
      simp only [Prod.mk.injEq] at hc
      rw [← hc.1] at hcls; cases hcls
    · simp only [Option.some.injEq, Prod.mk.injEq] at hc
      exact viaGen hc.1.symm hc.2.symm rfl
    · cases hc
  case makeInterface t a =>
    simp only [compOp0] at hc
    split at hc <;> first | (cases hc; done) | skip
    rename_i d hd
    cases hi : isIfaceD d with
    | true => rw [hi] at hc; cases hc
    | false =>
      rw [hi, cond_false] at hc
      simp only [Option.some.injEq, Prod.mk.injEq] at hc
      obtain ⟨rfl, rfl⟩ := hc
      exact mkIface_sim hd hi hx hs
  case typeAssert a s t ok =>
    simp only [compOp0] at hc
    split at hc <;> first | (cases hc; done) | skip
    rename_i d z hd hz
    cases hi : isIfaceD d with
    | true => rw [hi] at hc; cases hc
    | false =>
      rw [hi, cond_false] at hc
      simp only [Option.some.injEq, Prod.mk.injEq] at hc
      obtain ⟨rfl, rfl⟩ := hc
      exact assert_sim hd hi hz ok hx hs
  case makeFunc f a b =>
    simp only [compOp0, Option.some.injEq, Prod.mk.injEq] at hc
    obtain ⟨rfl, rfl⟩ := hc
    exact mkFunc_sim hx hs
  case slice t a lo hi mx =>
    cases mx with
    | some m => simp [compOp0] at hc
    | none =>
      simp only [compOp0] at hc
      split at hc
      · simp only [Option.some.injEq, Prod.mk.injEq] at hc
        exact viaGen hc.1.symm hc.2.symm (by simp [Op.operands])
      · rename_i e hu
        simp only [Option.map_eq_some_iff, Prod.mk.injEq] at hc
        obtain ⟨n, hn, rfl, rfl⟩ := hc
        exact slice_sim hu hn hx hs
      · cases hc
  case fieldAddr s a f =>
    simp only [compOp0] at hc
    split at hc <;> first | (cases hc; done) | skip
    rename_i fs hu
    split at hc <;> first | (cases hc; done) | skip
    rename_i fd hf
    split at hc <;> first | (cases hc; done) | skip
    rename_i n hn
    cases hb : n.beq 0 with
    | true => rw [hb] at hc; cases hc
    | false =>
      rw [hb, cond_false] at hc
      simp only [Option.some.injEq, Prod.mk.injEq] at hc
      obtain ⟨rfl, rfl⟩ := hc
      exact fieldAddr_sim hu hf hn (by intro e; subst e; simp at hb) hx hs
  case field t a f =>
    simp only [compOp0] at hc
    split at hc <;> first | (cases hc; done) | skip
    rename_i fs hu
    split at hc <;> first | (cases hc; done) | skip
    rename_i fd hf
    split at hc <;> first | (cases hc; done) | skip
    rename_i d n hd hn
    simp only [Option.some.injEq, Prod.mk.injEq] at hc
    obtain ⟨rfl, rfl⟩ := hc
    exact field_sim hu hf hd hn hx hs
  case indexAddr t a b =>
    simp only [compOp0] at hc
    split at hc <;> first | (cases hc; done) | skip
    · rename_i e hu
      simp only [Option.map_eq_some_iff, Prod.mk.injEq] at hc
      obtain ⟨n, hn, rfl, rfl⟩ := hc
      exact indexAddr_sim hu hn hx hs
    · rename_i len e hu
      simp only [Option.map_eq_some_iff, Prod.mk.injEq] at hc
      obtain ⟨n, hn, rfl, rfl⟩ := hc
      exact indexArr_sim hu hn hx hs
  case extract a i =>
    simp only [compOp0, Option.some.injEq, Prod.mk.injEq] at hc
    obtain ⟨rfl, rfl⟩ := hc
    exact extract_sim hx hs
  case build t parts =>
    simp only [compOp0] at hc
    split at hc <;> first | (cases hc; done) | skip
    · rename_i fs z hu hz
      split at hc <;> first | (cases hc; done) | skip
      rename_i pl hpl
      split at hc <;> first | (cases hc; done) | skip
      rename_i ps hps
      simp only [Option.some.injEq, Prod.mk.injEq] at hc
      obtain ⟨rfl, rfl⟩ := hc
      obtain ⟨i, zv, hi, hzv, rfl⟩ := zeroOf_spec hz
      obtain ⟨a, b⟩ := pickPlaces_spec hps
      exact build_sim (places := fun j => pl[j]?) (LRel.consts _) (by simpa [List.map_map, Function.comp_def] using hx) (by simpa using a) b hs
        (fun cells hf => buildS_run hu hi hzv hpl _ w hf)
    · rename_i len e z hu hz
      split at hc <;> first | (cases hc; done) | skip
      rename_i n hn
      simp only [Option.some.injEq, Prod.mk.injEq] at hc
      obtain ⟨rfl, rfl⟩ := hc
      obtain ⟨i, zv, hi, hzv, rfl⟩ := zeroOf_spec hz
      refine build_sim (places := fun j => some (j * n, n)) (LRel.consts _) (by simpa [List.map_map, Function.comp_def] using hx) (by simp) (fun i p q h1 h2 => ?_) hs
        (fun cells hf => buildA_run hu hi hzv hn _ w hf)
      simp only [List.getElem?_map, h2, Option.map_some, Option.some.injEq] at h1
      rw [h1]
  case call c =>
    simp only [compOp0] at hc
    have hb : ∀ b, c.callee = .builtin b → (execOp ρ ⟨dst, .call c, type, pos, after, guard⟩) = builtin b c.argTypes type (c.args.map fun | .const _ => true | _ => false) (c.args.map ρ) := by
      intro b h
      simp only [execOp, resolve, h]
      rfl
    split at hc
    · rename_i h
      simp only [Option.some.injEq, Prod.mk.injEq] at hc
      exact viaGen hc.1.symm hc.2.symm (by simp [Op.operands, Call.operands, h])
    · rename_i h
      simp only [Option.some.injEq, Prod.mk.injEq] at hc
      exact viaGen hc.1.symm hc.2.symm (by simp [Op.operands, Call.operands, h])
    · simp only [compCall] at hc
      split at hc
      · simp only [Option.some.injEq, Prod.mk.injEq] at hc
        rw [← hc.1] at hcls; cases hcls
      · simp only [Option.some.injEq, Prod.mk.injEq] at hc
        rw [← hc.1] at hcls; cases hcls
      · simp only [Option.some.injEq, Prod.mk.injEq] at hc
        rw [← hc.1] at hcls; cases hcls
      · rename_i b hcal
        split at hc
        · split at hc <;> first | (cases hc; done) | skip
          rename_i y t hargs ht
          have hat : c.args = #[y] := by apply Array.ext'; simpa using hargs
          have hrun : ∀ {x}, Ans E M w (do pure (.value (← Builtin.len_ #[t] type #[ρ y]))) x → Ans E M w (execOp ρ ⟨dst, .call c, type, pos, after, guard⟩) x := by
            intro x h
            rw [hb _ hcal, hat]
            have e : ∀ ty a, Builtin.len_ c.argTypes ty a = Builtin.len_ #[t] ty a := by intro ty a; unfold Builtin.len_; simp [ht]
            simpa [builtin, e] using h
          split at hc <;> first | (cases hc; done) | skip
          · rename_i hu
            simp only [Option.some.injEq, Prod.mk.injEq] at hc
            obtain ⟨rfl, rfl⟩ := hc
            exact hrun (lenS_sim hu hx hs)
          · rename_i e hu
            simp only [Option.some.injEq, Prod.mk.injEq] at hc
            obtain ⟨rfl, rfl⟩ := hc
            exact hrun (lenL_sim hu hx hs)
          · simp only [Option.some.injEq, Prod.mk.injEq] at hc
            rw [← hc.1] at hcls; cases hcls
        · split at hc <;> first | (cases hc; done) | skip
          split at hc <;> first | (cases hc; done) | skip
          split at hc <;> first | (cases hc; done) | skip
          obtain ⟨_, hc⟩ := bif_true hc
          simp only [Prod.mk.injEq] at hc
          rw [← hc.1] at hcls
          revert hcls
          cases isIntD _ <;> intro hcls <;> cases hcls
        · split at hc <;> first | (cases hc; done) | skip
          split at hc <;> first | (cases hc; done) | skip
          simp only [Option.map_eq_some_iff, Prod.mk.injEq] at hc
          obtain ⟨_, _, rfl, _⟩ := hc; cases hcls
        · split at hc <;> first | (cases hc; done) | skip
          split at hc <;> first | (cases hc; done) | skip
          split at hc <;> first | (cases hc; done) | skip
          obtain ⟨_, hc⟩ := bif_true hc
          simp only [Prod.mk.injEq] at hc
          rw [← hc.1] at hcls; cases hcls
        · split at hc <;> first | (cases hc; done) | skip
          split at hc <;> first | (cases hc; done) | skip
          · simp only [Option.some.injEq, Prod.mk.injEq] at hc
            rw [← hc.1] at hcls; cases hcls
          · split at hc <;> first | (cases hc; done) | skip
            simp only [Option.some.injEq, Prod.mk.injEq] at hc
            rw [← hc.1] at hcls; cases hcls
        · cases hc
  case makeMap t r => cases r <;> simp [compOp0] at hc; rw [← hc.1] at hcls; cases hcls
  case next it b => cases b <;> simp [compOp0] at hc; rw [← hc.1] at hcls; cases hcls
  all_goals
    exfalso
    simp only [compOp0, Bool.cond_eq_ite] at hc
    iterate 5 (all_goals try split at hc)
    all_goals try (cases hc; done)
    all_goals try (simp only [Option.some.injEq, Prod.mk.injEq] at hc; rw [← hc.1] at hcls; cases hcls; done)
    all_goals try (simp only [Option.map_eq_some_iff, Prod.mk.injEq] at hc; obtain ⟨_, _, h9, _⟩ := hc; rw [← h9] at hcls; cases hcls; done)
end
end Go.Sx
