import Derived.Test.YtdaicpekdnkafaaGreatDoorSxG
namespace Go.Sx
open Go Go.RowKit
section
variable {E : Env} {ρ : Operand → Value} {M : BMap} {w : World}

theorem conv_sim {s d : TypeId} {sd : TypeDesc} {k : IntKind} (hs' : E.P.underlying s = some sd) (hd : E.P.underlying d = some (.int k)) {a : Operand} {xs : List AV} {x : AV}
    (hx : LRel M xs [ρ a]) (hs : pstep E (.conv k) xs = some x) : Ans E M w (do pure (.value (← convert s d (ρ a)))) x := by
  obtain ⟨y, rfl, hy⟩ := hx.inv1
  cases y <;> simp only [pstep] at hs <;> first | (cases hs; done) | skip
  rename_i v
  cases v <;> simp only at hs <;> first | (cases hs; done) | skip
  rename_i k' n
  injection hs with hs; subst hs
  rw [hy.c_inv]
  refine ans_val (v := .int k (k.wrap n)) ?_ (.c _)
  simp [convert, run_underlying hs', run_underlying hd, Conv.intToInt]

theorem extract_sim {a : Operand} {i : Nat} {xs : List AV} {x : AV} (hx : LRel M xs [ρ a]) (hs : pstep E (.extract i) xs = some x) :
    Ans E M w (do pure (.value (← Instr.extract (ρ a) i))) x := by
  obtain ⟨y, rfl, hy⟩ := hx.inv1
  cases y <;> simp only [pstep] at hs <;> first | (cases hs; done) | skip
  obtain ⟨vs, e, hr⟩ := hy.tup_inv
  obtain ⟨v, hv, hxv⟩ := hr.get hs
  have hv' : vs[i]? = some v := by simpa using hv
  refine ans_val (v := v) ?_ hxv
  simp [Instr.extract, e, hv']

theorem mkIface_sim {t : TypeId} {d : TypeDesc} (hd : E.P.underlying t = some d) (hi : isIfaceD d = false) {a : Operand} {xs : List AV} {x : AV} (hx : LRel M xs [ρ a])
    (hs : pstep E (.mkIface t) xs = some x) : Ans E M w (do pure (.value (← Instr.makeInterface t (ρ a)))) x := by
  obtain ⟨y, rfl, hy⟩ := hx.inv1
  simp only [pstep] at hs; injection hs with hs; subst hs
  refine ans_val (v := .iface t (ρ a)) ?_ (.iface hy)
  cases d <;> simp [isIfaceD] at hi <;> simp [Instr.makeInterface, run_underlying hd]

theorem assert_sim {s t : TypeId} {d : TypeDesc} {z : AV} (hd : E.P.underlying t = some d) (hi : isIfaceD d = false) (hz : zeroV E.P t = some z) (ok : Bool) {a : Operand} {xs : List AV} {x : AV} (hx : LRel M xs [ρ a])
    (hs : pstep E (.assert t z ok) xs = some x) : Ans E M w (do pure (.value (← Instr.typeAssert (ρ a) s t ok))) x := by
  obtain ⟨y, rfl, hy⟩ := hx.inv1
  obtain ⟨zv, hzr, hzz⟩ : ∃ zv, (∀ w : World, (zeroValue t).run E.P w = .ok zv w) ∧ VRel M z zv := by
    simp only [zeroV, Option.map_eq_some_iff, Option.bind_eq_some_iff] at hz
    obtain ⟨v, ⟨i, hi, hz⟩, rfl⟩ := hz
    exact ⟨v, fun w => run_zeroValue w hi hz, norm_rel M v⟩
  simp only [pstep] at hs
  generalize ρ a = v at *
  split at hs
  · rename_i u y
    cases hy with
    | iface hr =>
      rename_i v
      cases hu : u.beq t with
      | true =>
        have hu := Nat.eq_of_beq_eq_true hu
        subst hu
        rw [Nat.beq_refl, cond_true] at hs
        injection hs with hs; subst hs
        cases ok with
        | true =>
          refine ans_val (v := .tuple #[v, .bool true]) ?_ (.tup' (LRel.cons hr (LRel.cons (.c _) .nil)))
          cases d <;> simp [isIfaceD] at hi <;> simp [Instr.typeAssert, run_underlying hd]
        | false =>
          refine ans_val (v := v) ?_ hr
          cases d <;> simp [isIfaceD] at hi <;> simp [Instr.typeAssert, run_underlying hd]
      | false =>
        rw [hu, cond_false] at hs
        have hu := Nat.ne_of_beq_eq_false hu
        cases ok with
        | true =>
          injection hs with hs; subst hs
          refine ans_val (v := .tuple #[zv, .bool false]) ?_ (.tup' (LRel.cons hzz (LRel.cons (.c _) .nil)))
          cases d <;> simp [isIfaceD] at hi <;> simp [Instr.typeAssert, run_underlying hd, hu, hzr]
        | false => cases hs
  · cases hy
    cases ok with
    | true =>
      injection hs with hs; subst hs
      refine ans_val (v := .tuple #[zv, .bool false]) ?_ (.tup' (LRel.cons hzz (LRel.cons (.c _) .nil)))
      cases d <;> simp [isIfaceD] at hi <;> simp [Instr.typeAssert, run_underlying hd, hzr]
    | false => cases hs
  · cases hs

theorem mkFunc_sim {f : Fn} {first caps : Array Operand} {xs : List AV} {x : AV} (hx : LRel M xs ((first.toList ++ caps.toList).map ρ))
    (hs : pstep E (.mkFunc f first.size) xs = some x) : Ans E M w (do pure (.value (← Instr.makeFunc f (first.map ρ) (caps.map ρ)))) x := by
  simp only [pstep] at hs; injection hs with hs; subst hs
  refine ans_val (v := .func f (first.map ρ) (caps.map ρ)) (by simp [Instr.makeFunc]) ?_
  have h1 : LRel M (xs.take first.size) (first.map ρ).toList := by
    have := hx.take first.size
    simpa [List.take_append] using this
  have h2 : LRel M (xs.drop first.size) (caps.map ρ).toList := by
    have := hx.drop first.size
    simpa [List.drop_append] using this
  exact .fn (by simpa using h1.1) (fun i x v a b => h1.2 i x v a (by simpa using b)) (by simpa using h2.1) (fun i x v a b => h2.2 i x v a (by simpa using b))

theorem lenS_sim {t ty : TypeId} (hd : E.P.underlying t = some .string) {a : Operand} {xs : List AV} {x : AV} (hx : LRel M xs [ρ a])
    (hs : pstep E (.len true) xs = some x) : Ans E M w (do pure (.value (← Builtin.len_ #[t] ty #[ρ a]))) x := by
  obtain ⟨y, rfl, hy⟩ := hx.inv1
  generalize ρ a = ra at *
  cases hy with
  | c =>
    cases ra <;> simp only [pstep] at hs <;> first | (cases hs; done) | skip
    injection hs with hs; subst hs
    exact ans_val (by simp [Builtin.len_, run_underlying hd, goInt]) (.c _)
  | _ => simp [pstep] at hs
theorem lenL_sim {t ty e : TypeId} (hd : E.P.underlying t = some (.slice e)) {a : Operand} {xs : List AV} {x : AV} (hx : LRel M xs [ρ a])
    (hs : pstep E (.len false) xs = some x) : Ans E M w (do pure (.value (← Builtin.len_ #[t] ty #[ρ a]))) x := by
  obtain ⟨y, rfl, hy⟩ := hx.inv1
  generalize ρ a = ra at *
  cases hy with
  | sl h a b c =>
    simp only [pstep] at hs; injection hs with hs; subst hs
    exact ans_val (by simp [Builtin.len_, run_underlying hd, goInt]) (.c _)
  | c =>
    cases ra <;> simp only [pstep] at hs <;> first | (cases hs; done) | skip
    injection hs with hs; subst hs
    exact ans_val (by simp [Builtin.len_, run_underlying hd, goInt]) (.c _)
  | _ => simp [pstep] at hs

theorem field_sim {t : TypeId} {fs : Array Field} {f : Nat} {fd : Field} {n : Nat} {d : TypeDesc} (hu : E.P.underlying t = some (.struct fs)) (hf : fs[f]? = some fd)
    (hd : E.P.underlying fd.type = some d) (hn : sizeP E.P fd.type = some n) {a : Operand} {xs : List AV} {x : AV} (hx : LRel M xs [ρ a])
    (hs : pstep E (.field fd.offset n (isAggD d)) xs = some x) : Ans E M w (do pure (.value (← Instr.field t (ρ a) f))) x := by
  obtain ⟨y, rfl, hy⟩ := hx.inv1
  cases y <;> simp only [pstep] at hs <;> first | (cases hs; done) | skip
  rename_i l
  obtain ⟨vs, e, hr⟩ := hy.agg_inv
  cases hagg : isAggD d with
  | true =>
    rw [hagg, cond_true, Option.map_eq_some_iff] at hs
    obtain ⟨r, hc, rfl⟩ := hs
    obtain ⟨h1, h2⟩ := cut_spec hc
    refine ans_val (v := .agg (vs.extract fd.offset (fd.offset + n))) ?_ (.agg' ?_)
    · simp [Instr.field, run_underlying hu, hf, e, asAgg, part, run_isAgg' w hd, hagg, run_sizeOf' w hn]
    · subst h1
      have := (hr.drop fd.offset).take n
      simpa [Array.toList_extract, List.extract_eq_take_drop] using this
  | false =>
    rw [hagg, cond_false] at hs
    obtain ⟨v, hv, hxv⟩ := hr.get hs
    have hv' : vs[fd.offset]? = some v := by simpa using hv
    refine ans_val (v := v) ?_ hxv
    simp [Instr.field, run_underlying hu, hf, e, asAgg, part, run_isAgg' w hd, hagg, hv']

/-- A bound of a slice expression. -/
theorem bound_run {v : Value} {k : IntKind} {i : Int} {y : Nat} (hv : v = .int k i) (h0 : 0 ≤ i) (h1 : i ≤ y) (code : BoundsCode) : (Instr.sliceBound v y code).run E.P w = .ok i.toNat w := by
  subst hv; simp [Instr.sliceBound, asIntOf, h0, h1]

/-- lo, hi: the operands, each there or not: what they come to. -/
def bndOf (lo hi : Option Value) (l : Nat) (p q : Nat) : Prop :=
  (match lo with | some v => ∃ k i, v = .int k i ∧ 0 ≤ i ∧ i.toNat = p | none => p = 0) ∧
  (match hi with | some v => ∃ k i, v = .int k i ∧ 0 ≤ i ∧ i.toNat = q | none => q = l)
theorem bounds_run {lo hi : Option Value} {l cap p q : Nat} (h : bndOf lo hi l p q) (hpq : p ≤ q) (hq : q ≤ cap) : (Instr.sliceBounds true l cap lo hi none).run E.P w = .ok (p, q, cap) w := by
  obtain ⟨ha, hb⟩ := h
  cases hi with
  | none =>
    simp only at hb; subst hb
    cases lo with
    | none => simp only at ha; subst ha; simp [Instr.sliceBounds]
    | some v =>
      obtain ⟨k, i, rfl, h0, rfl⟩ := ha
      have hle : i ≤ (q : Int) := by omega
      simp [Instr.sliceBounds, Instr.sliceBound, asIntOf, h0, hle]
  | some u =>
    obtain ⟨k, i, rfl, h0, rfl⟩ := hb
    have hle : i ≤ (cap : Int) := by omega
    cases lo with
    | none => simp only at ha; subst ha; simp [Instr.sliceBounds, Instr.sliceBound, asIntOf, h0, hle]
    | some v =>
      obtain ⟨k', i', rfl, h0', rfl⟩ := ha
      have hle' : i' ≤ max i 0 := by omega
      simp [Instr.sliceBounds, Instr.sliceBound, asIntOf, h0, hle, h0', hle']

theorem sbnd_rel {o : Option Operand} {rest : List Operand} {r r' : List AV} {d p : Nat} (hx : LRel M r ((o.toList ++ rest).map ρ)) (hs : sbnd o.isSome r d = some (p, r')) :
    (match o.map ρ with | some v => ∃ k i, v = .int k i ∧ 0 ≤ i ∧ i.toNat = p | none => p = d) ∧ LRel M r' (rest.map ρ) := by
  cases o with
  | none =>
    simp [sbnd] at hs
    obtain ⟨rfl, rfl⟩ := hs
    exact ⟨rfl, by simpa using hx⟩
  | some u =>
    obtain ⟨x, l, rfl, hx1, hx2⟩ := LRel.invC (by simpa using hx)
    cases x <;> simp only [Option.isSome_some, sbnd] at hs <;> first | (cases hs; done) | skip
    rename_i v
    cases v <;> simp only at hs <;> first | (cases hs; done) | skip
    rename_i k i
    obtain ⟨hp, e⟩ := bif_true hs
    simp only [Prod.mk.injEq] at e
    obtain ⟨rfl, rfl⟩ := e
    exact ⟨⟨k, i, hx1.c_inv, by simpa using hp, rfl⟩, by simpa using hx2⟩

theorem slice_sim {t e : TypeId} {n : Nat} (hu : E.P.underlying t = some (.slice e)) (hn : sizeP E.P e = some n) {a : Operand} {lo hi : Option Operand} {xs : List AV} {x : AV}
    (hx : LRel M xs ((a :: lo.toList ++ hi.toList).map ρ)) (hs : pstep E (.slice n lo.isSome hi.isSome) xs = some x) :
    Ans E M w (do pure (.value (← Instr.sliceAt t (ρ a) (lo.map ρ) (hi.map ρ) none))) x := by
  obtain ⟨y, r, rfl, hy, hr⟩ := LRel.invC (by simpa using hx)
  have hr' : LRel M r ((lo.toList ++ hi.toList).map ρ) := by simpa using hr
  generalize ρ a = ra at *
  have hrun : ∀ (p : Option Addr) (l cap u v : Nat), ra = .slice p l cap → bndOf (lo.map ρ) (hi.map ρ) l u v → u ≤ v → v ≤ cap →
      ((do pure (.value (← Instr.sliceAt t ra (lo.map ρ) (hi.map ρ) none)) : Sem Next)).run E.P w = .ok (.value (.slice (if cap = u then p else p.map (·.add (u * n))) (v - u) (cap - u))) w := by
    intro p l cap u v hp hb h1 h2
    subst hp
    simp only [Instr.sliceAt, Instr.slice, Sem.run_bind, run_underlying hu, Result.andThen_ok, bounds_run hb h1 h2, run_sizeOf' w hn, Sem.run_pure]
  have two : ∀ (l u v : Nat) (r' : List AV), sbnd lo.isSome r 0 = some (u, r') → sbnd hi.isSome r' l = some (v, []) → bndOf (lo.map ρ) (hi.map ρ) l u v := by
    intro l u v r' h1 h2
    obtain ⟨k1, k2⟩ := sbnd_rel hr' h1
    obtain ⟨k3, _⟩ := sbnd_rel (rest := []) (by simpa using k2) h2
    exact ⟨k1, k3⟩
  cases hy with
  | sl h hl hs' ho =>
    rename_i b o l s cb off cap
    simp only [pstep] at hs
    cases h1 : sbnd lo.isSome r 0 with
    | none => rw [h1] at hs; cases hs
    | some pr =>
      obtain ⟨u, r'⟩ := pr
      rw [h1] at hs
      simp only at hs
      cases h2 : sbnd hi.isSome r' l with
      | none => rw [h2] at hs; cases hs
      | some pr2 =>
        obtain ⟨v, r''⟩ := pr2
        rw [h2] at hs
        cases r'' with
        | cons _ _ => cases hs
        | nil =>
          simp only at hs
          obtain ⟨hp, rfl⟩ := bif_true hs
          simp only [Bool.and_eq_true] at hp
          obtain ⟨⟨e1, e2⟩, e3⟩ := hp
          have e1 := Nat.eq_of_beq_eq_true e1
          have e2 := Nat.le_of_ble_eq_true e2
          have e3 := Nat.le_of_ble_eq_true e3
          subst e1
          refine ans_val (hrun _ l cap u v rfl (two l u v r' h1 h2) e2 (by omega)) ?_
          by_cases hc : cap = u
          · subst hc
            rw [if_pos rfl]
            exact .sl h (by omega) (fun h => by omega) (fun h => by omega)
          · rw [if_neg hc]
            have hcap : cap ≠ 0 := by omega
            have ho' := ho hcap
            subst ho'
            simp only [Option.map_some, addr_add_ptr]
            have hs2 := hs' hcap
            refine .sl h (by omega) (fun _ => ?_) (fun _ => rfl)
            have hm : (cap - u) * s + u * s = cap * s := by rw [← Nat.add_mul]; congr 1; omega
            omega
  | c =>
    cases ra <;> simp only [pstep] at hs <;> first | (cases hs; done) | skip
    rename_i p l cap
    cases p with
    | none =>
      cases l with
      | succ l => simp at hs
      | zero =>
      cases cap with
      | succ c => simp at hs
      | zero =>
        simp only at hs
        cases h1 : sbnd lo.isSome r 0 with
        | none => rw [h1] at hs; cases hs
        | some pr =>
          obtain ⟨u, r'⟩ := pr
          rw [h1] at hs
          cases u with
          | succ u => cases hs
          | zero =>
          simp only at hs
          cases h2 : sbnd hi.isSome r' 0 with
          | none => rw [h2] at hs; cases hs
          | some pr2 =>
            obtain ⟨v, r''⟩ := pr2
            rw [h2] at hs
            cases v with
            | succ v => cases hs
            | zero =>
            cases r'' with
            | cons _ _ => cases hs
            | nil =>
              simp only at hs
              injection hs with hs; subst hs
              refine ans_val (hrun _ 0 0 0 0 rfl (two 0 0 0 r' h1 h2) (by omega) (by omega)) ?_
              exact .c _
    | some p =>
      simp only at hs
      cases h1 : sbnd lo.isSome r 0 with
      | none => rw [h1] at hs; cases hs
      | some pr =>
        obtain ⟨u, r'⟩ := pr
        rw [h1] at hs
        simp only at hs
        cases h2 : sbnd hi.isSome r' l with
        | none => rw [h2] at hs; cases hs
        | some pr2 =>
          obtain ⟨v, r''⟩ := pr2
          rw [h2] at hs
          cases r'' with
          | cons _ _ => cases hs
          | nil =>
            simp only at hs
            obtain ⟨hp, rfl⟩ := bif_true hs
            simp only [Bool.and_eq_true] at hp
            obtain ⟨⟨e2, e3⟩, e4⟩ := hp
            have e2 := Nat.le_of_ble_eq_true e2
            have e3 := Nat.le_of_ble_eq_true e3
            have e4 := Nat.le_of_ble_eq_true e4
            refine ans_val (hrun _ l cap u v rfl (two l u v r' h1 h2) e2 (by omega)) ?_
            cases hb : cap.beq u with
            | true => rw [if_pos (Nat.eq_of_beq_eq_true hb)]; exact .c _
            | false => rw [if_neg (by intro e; subst e; simp at hb)]; exact .c _
  | _ => simp [pstep] at hs
end
end Go.Sx
