/- The operations that name unsafe, and those of a range over a map with one way to go. -/
import Derived.Test.YtdaicpekdnkafaaGreatDoorSxT
namespace Go.Sx
open Go Go.RowKit
section
variable {E : Env} {ρ : Operand → Value} {M : BMap} {F : Nat → Option AB} {h : H} {w : World}

theorem usd_sim {ty : TypeId} {argTypes : Array TypeId} {a : Operand} {xs : List AV} {x : AV} (hx : LRel M xs [ρ a]) (hs : pstep E .usd xs = some x) :
    Ans E M w (do pure (.value (← Builtin.unsafeSliceData_ argTypes ty #[ρ a]))) x := by
  obtain ⟨y, rfl, hy⟩ := hx.inv1
  generalize ρ a = ra at *
  cases hy with
  | c v =>
    cases ra <;> simp only [pstep] at hs <;> first | (cases hs; done) | skip
    rename_i p l c
    cases p with
    | some a => cases hs
    | none =>
      simp only [Option.some.injEq] at hs; subst hs
      have e1 : Builtin.unsafeSliceData_ argTypes ty #[.slice none l c] = pure (.pointer none) := rfl
      exact ⟨.value (.pointer none), _, by rw [e1]; simp, rfl, .c _⟩
  | sl hM hl hs' ho =>
    rename_i b o l sz cb off cap
    simp only [pstep] at hs
    cases hb : l.beq 0 with
    | true => rw [hb] at hs; cases hs
    | false =>
      rw [hb, cond_false, Option.some.injEq] at hs
      subst hs
      have hl0 : l ≠ 0 := by intro e; subst e; simp at hb
      have hc : cap ≠ 0 := by omega
      have := ho hc
      subst this
      have e2 : ∃ s, Builtin.unsafeSliceData_ argTypes ty #[.slice (some ⟨cb.blk, cb.sh + o, none⟩) l cap] = if cap ≠ 0 then pure (.pointer (some ⟨cb.blk, cb.sh + o, none⟩)) else s := ⟨_, rfl⟩
      obtain ⟨s, e2⟩ := e2
      exact ⟨.value (.pointer (some ⟨cb.blk, cb.sh + o, none⟩)), _, by rw [e2, if_pos hc]; simp, rfl, .ptr hM⟩
  | _ => simp [pstep] at hs

theorem viewAt_cells {P : Program} {r : Nat} {arr : Array Value} {e : TypeId} {fz : Nat × Nat} (h : w.heap[r]? = some (.cells arr e fz)) : (viewAt r).run P w = .ok none w := by
  simp [viewAt, shape, Sem.run, World.shape?, h]
theorem shape_cells {P : Program} {r : Nat} {arr : Array Value} {e : TypeId} {fz : Nat × Nat} (h : w.heap[r]? = some (.cells arr e fz)) : (shape r).run P w = .ok (some (e, arr.size)) w := by
  simp [shape, Sem.run, World.shape?, h]
theorem cellsIn_cells {P : Program} {r : Nat} {arr : Array Value} {e : TypeId} {fz : Nat × Nat} (h : w.heap[r]? = some (.cells arr e fz)) : (cellsIn r).run P w = .ok (some arr.size) w := by
  simp [cellsIn, shape_cells h]
theorem seenAt_cells {P : Program} {a : Addr} {arr : Array Value} {e : TypeId} {fz : Nat × Nat} (h : w.heap[a.block]? = some (.cells arr e fz)) : (Conv.seenAt a).run P w = .ok a w := by
  simp [Conv.seenAt, viewAt_cells h]
theorem variablesAt_cells {P : Program} {a : Addr} {arr : Array Value} {e : TypeId} {fz : Nat × Nat} (h : w.heap[a.block]? = some (.cells arr e fz)) (u : TypeId) (n : Nat) :
    (variablesAt a u n).run P w = .ok (liesAt P P.depth e (arr.size / P.cellsOf e) a.off u n) w := by
  simp [variablesAt, World.shape?, h]

theorem uto_sim (K : HRel E.W0 M F w) {s d t : TypeId} {n : Nat} (h1 : E.P.underlying s = some (.pointer t)) (h2 : E.P.underlying d = some .unsafePointer) (hn : sizeP E.P t = some n) (hn0 : n ≠ 0)
    {a : Operand} {xs : List AV} {x : AV} (hx : LRel M xs [ρ a]) (hs : lstep E .uto xs F = some x) : AnsR E M F w (do pure (.value (← convert s d (ρ a)))) x := by
  obtain ⟨y, rfl, hy⟩ := hx.inv1
  generalize ρ a = ra at *
  cases hy with
  | c v =>
    cases ra <;> simp only [lstep] at hs <;> first | (cases hs; done) | skip
    rename_i p
    cases p with
    | some a => cases hs
    | none =>
      simp only [Option.some.injEq] at hs; subst hs
      exact ansR (u := .pointer none) K (by simp [convert, Conv.unsafePointer, run_underlying h1, run_underlying h2]) (.c _)
  | ptr hM =>
    rename_i b o cb
    simp only [lstep] at hs
    split at hs <;> first | (cases hs; done) | skip
    rename_i l e hF
    obtain ⟨hlt, e1⟩ := bif_true hs
    subst e1
    have hlt := blt_iff.1 hlt
    obtain ⟨arr, fz, g1, g2, g3, _, _⟩ := K.cellsAt hM hF
    refine ansR (u := .pointer (some ⟨cb.blk, cb.sh + o, none⟩)) K ?_ (.ptr hM)
    have h3 : ¬ arr.size ≤ cb.sh + o := by omega
    simp [convert, Conv.unsafePointer, run_underlying h1, run_underlying h2, seenAt_cells (a := ⟨cb.blk, cb.sh + o, none⟩) g1, cellsIn_cells g1, run_sizeOf' w hn, hn0, h3]
  | _ => simp [lstep] at hs

theorem uof_sim (K : HRel E.W0 M F w) {s d u : TypeId} {n : Nat} (h1 : E.P.underlying s = some .unsafePointer) (h2 : E.P.underlying d = some (.pointer u)) (hn : sizeP E.P u = some n)
    {a : Operand} {xs : List AV} {x : AV} (hx : LRel M xs [ρ a]) (hs : lstep E (.uof u) xs F = some x) : AnsR E M F w (do pure (.value (← convert s d (ρ a)))) x := by
  obtain ⟨y, rfl, hy⟩ := hx.inv1
  generalize ρ a = ra at *
  cases hy with
  | c v =>
    cases ra <;> simp only [lstep] at hs <;> first | (cases hs; done) | skip
    rename_i p
    cases p with
    | some a => cases hs
    | none =>
      simp only [Option.some.injEq] at hs; subst hs
      exact ansR (u := .pointer none) K (by simp [convert, Conv.unsafePointer, run_underlying h1, run_underlying h2]) (.c _)
  | ptr hM =>
    rename_i b o cb
    simp only [lstep] at hs
    split at hs <;> first | (cases hs; done) | skip
    rename_i l e hF
    obtain ⟨hlt, e1⟩ := bif_true hs
    subst e1
    simp only [Bool.and_eq_true] at hlt
    obtain ⟨k1, k2⟩ := hlt
    have k1 := Nat.eq_of_beq_eq_true k1
    obtain ⟨arr, fz, g1, g2, g3, _, _⟩ := K.cellsAt hM hF
    obtain ⟨x1, x2⟩ := K.exactAt hM hF _ _ _ g1 k1
    refine ansR (u := .pointer (some ⟨cb.blk, cb.sh + o, none⟩)) K ?_ (.ptr hM)
    have hv := variablesAt_cells (P := E.P) (a := ⟨cb.blk, cb.sh + o, none⟩) g1 u 1
    simp only [x1, Nat.zero_add, x2, k2] at hv
    simp [convert, Conv.unsafePointer, run_underlying h1, run_underlying h2, x1, seenAt_cells (a := ⟨cb.blk, o, none⟩) g1, run_sizeOf' w hn, hv]
  | _ => simp [lstep] at hs

theorem run_loadBytes {P : Program} : ∀ (vs : List Value) (a : Addr) (acc : ByteArray), (∀ (j : Nat) v, vs[j]? = some v → w.cell? (a.add j) = some v) → (∀ c ∈ vs, ∃ n, c = .int .u8 n) →
    (loadBytes a acc vs.length).run P w = .ok ⟨(acc.data.toList ++ vs.map byteOfV).toArray⟩ w := by
  intro vs
  induction vs with
  | nil => intro a acc _ _; simp [loadBytes]
  | cons v vs ih =>
    intro a acc hc hb
    obtain ⟨n, rfl⟩ := hb v (by simp)
    have h0 := hc 0 _ rfl
    have h0' : w.cell? a = some (.int .u8 n) := by simpa [Addr.add] using h0
    have hadd : ∀ j, (a.add 1).add j = a.add (j + 1) := fun j => by simp [Addr.add, Nat.add_assoc, Nat.add_comm 1 j]
    have := ih (a.add 1) (acc.push n.toNat.toUInt8) (fun j u hj => by rw [hadd]; exact hc (j + 1) u (by simpa using hj)) (fun c hc => hb c (by simp [hc]))
    simp only [List.length_cons, loadBytes]
    simp only [Sem.run_bind, load, Sem.run, h0', Result.andThen_ok, this]
    congr 2
    simp [byteOfV, ByteArray.push]

theorem rowAt_one {P : Program} {fits : TypeId → Bool} {d : Nat} {e : TypeId} {count off n : Nat} (h1 : P.cellsOf e = 1) (hf : fits e = true) (hle : off + n ≤ count) : rowAt P fits (d + 1) e count off n = true := by
  simp [rowAt, h1, hf, hle, Nat.mod_one]
theorem liesAt_one {P : Program} {e : TypeId} {count off n : Nat} (h1 : P.cellsOf e = 1) (hle : off + n ≤ count) : liesAt P P.depth e count off e n = true := by
  obtain ⟨d, hd⟩ : ∃ d, P.depth = d + 1 := ⟨2 * (P.types.size + Made.depth) + 1, rfl⟩
  have hr : rowAt P (sameLayout P P.depth · e) P.depth e count off n = true := by
    rw [hd]
    exact rowAt_one h1 (by simp [sameLayout]) hle
  rw [hd] at hr ⊢
  simp only [liesAt]
  rw [hd, hr]
  rfl

theorem World.freeze_heap (w : World) (a : Addr) (n : Nat) (o : Obj) (h : w.heap[a.block]? = some o) : (w.freeze a n).heap.size = w.heap.size ∧ (∀ i, i ≠ a.block → (w.freeze a n).heap[i]? = w.heap[i]?) ∧ (∃ o', (w.freeze a n).heap[a.block]? = some o') ∧
    (w.freeze a n).os = w.os ∧ (w.freeze a n).tape = w.tape ∧ (w.freeze a n).output = w.output := by
  unfold World.freeze
  split
  · exact ⟨rfl, fun _ _ => rfl, ⟨_, h⟩, rfl, rfl, rfl⟩
  · refine ⟨by simp, fun i hi => by simp [Array.getElem?_modify, hi.symm], ⟨_, by simp only [Array.getElem?_modify, if_pos, h, Option.map_some]; rfl⟩, rfl, rfl, rfl⟩

theorem bif_some {α : Type} {c : Bool} {x : Option α} {y : α} (h : (bif c then x else none) = some y) : c = true ∧ x = some y := by
  cases c with
  | true => exact ⟨rfl, h⟩
  | false => cases h

/-- The string over bytes: what it does, the ways that end the call left unnamed. -/
theorem ustr_eq {argTypes : Array TypeId} {ty t : TypeId} (ha : argTypes[0]? = some t) (p : Option Addr) (k : IntKind) (n : Int) : ∃ (s1 s2 : Sem PUnit) (s3 s4 : Sem Value), Builtin.unsafeString_ argTypes ty #[.pointer p, .int k n] = (do
    if n < 0 then s1
    if n > IntKind.i64.max then s2
    match p with
    | none =>
      if n = 0 then pure (.string .empty)
      else s3
    | some a =>
      if n = 0 then pure (.string .empty)
      else if ← variablesAt a (← elemOf t) n.toNat then do
        let s ← loadBytes a .empty n.toNat
        freeze a n.toNat
        pure (.string s)
      else s4) := by
  have : ∃ (s0 s3 s4 : Sem Value) (s1 s2 : Sem PUnit), Builtin.unsafeString_ argTypes ty #[.pointer p, .int k n] = (do
    let some pt := argTypes[0]? | s0
    if n < 0 then s1
    if n > IntKind.i64.max then s2
    match p with
    | none =>
      if n = 0 then pure (.string .empty)
      else s3
    | some a =>
      if n = 0 then pure (.string .empty)
      else if ← variablesAt a (← elemOf pt) n.toNat then do
        let s ← loadBytes a .empty n.toNat
        freeze a n.toNat
        pure (.string s)
      else s4) := ⟨_, _, _, _, _, rfl⟩
  obtain ⟨s0, s3, s4, s1, s2, this⟩ := this
  exact ⟨s1, s2, s3, s4, by rw [this, ha]⟩

theorem ustr_sim (K : HRel E.W0 M h.get w) {ty t u : TypeId} {argTypes : Array TypeId} (ha : argTypes[0]? = some t) (hu : E.P.underlying t = some (.pointer u)) (h1 : E.P.cellsOf u = 1) {a b : Operand} {xs : List AV} {x : AV} {h' : H}
    (hx : LRel M xs [ρ a, ρ b]) (hs : wstep E (.ustr u) xs h = some (x, h')) : AnsW E M h w (do pure (.value (← Builtin.unsafeString_ argTypes ty #[ρ a, ρ b]))) x h' := by
  obtain ⟨y, z, rfl, hy, hz⟩ := hx.inv2
  generalize ρ a = ra at *
  generalize ρ b = rb at *
  have fin : ∀ {v w' M'}, (Builtin.unsafeString_ argTypes ty #[ra, rb]).run E.P w = .ok v w' → VRel M' x v → Step E.W0 M h w M' h' w' → AnsW E M h w (do pure (.value (← Builtin.unsafeString_ argTypes ty #[ra, rb]))) x h' :=
    fun {v w' M'} a b c => ⟨.value v, v, w', M', by simp [a], rfl, b, c⟩
  cases z <;> simp only [wstep] at hs <;> first | (cases hs; done) | skip
  rename_i vn
  cases vn <;> simp only at hs <;> first | (cases hs; done) | skip
  rename_i k n
  have hz := hz.c_inv
  subst hz
  have hmax : IntKind.i64.max = 9223372036854775807 := by decide
  cases hy with
  | c v =>
    cases ra <;> (try simp only at hs) <;> first | (cases hs; done) | skip
    rename_i p
    cases p with
    | some a => cases hs
    | none =>
      obtain ⟨hn, e1⟩ := bif_true hs
      simp only [decide_eq_true_eq] at hn
      subst hn
      injection e1 with e1 e2
      subst e1 e2
      refine fin (v := .string .empty) (w' := w) (M' := M) ?_ (.c _) (Step.refl K)
      obtain ⟨s1, s2, s3, s4, heq⟩ := ustr_eq (ty := ty) ha none k 0
      rw [heq]
      simp [hmax]
  | ptr hM =>
    rename_i b o cb
    simp only at hs
    by_cases hn : n = 0
    · subst hn
      simp only [decide_true, cond_true] at hs
      injection hs with e1
      injection e1 with e1 e2
      subst e1 e2
      refine fin (v := .string .empty) (w' := w) (M' := M) ?_ (.c _) (Step.refl K)
      obtain ⟨s1, s2, s3, s4, heq⟩ := ustr_eq (ty := ty) ha (some ⟨cb.blk, cb.sh + o, none⟩) k 0
      rw [heq]
      simp [hmax]
    · simp only [hn, decide_false, cond_false] at hs
      obtain ⟨hp, hs⟩ := bif_some hs
      simp only [Bool.and_eq_true, decide_eq_true_eq] at hp
      obtain ⟨p1, p2⟩ := hp
      split at hs <;> first | (cases hs; done) | skip
      rename_i l e hF
      obtain ⟨he, hs⟩ := bif_some hs
      have he := Nat.eq_of_beq_eq_true he
      split at hs <;> first | (cases hs; done) | skip
      rename_i r hr
      split at hs <;> first | (cases hs; done) | skip
      rename_i bs hbs
      injection hs with e1
      injection e1 with e1 e2
      subst e1 e2
      obtain ⟨arr, fz, g1, g2, g3, _, _⟩ := K.cellsAt hM hF
      obtain ⟨vs, v1, v2, v3⟩ := K.row hM hF hr
      obtain ⟨b1, b2⟩ := bytesA_spec hbs v3
      obtain ⟨c1, c2⟩ := cut_spec hr
      have hlen : o + n.toNat ≤ l.length := by
        have := congrArg List.length c1
        simp only [List.length_take, List.length_drop] at this
        omega
      have hload := run_loadBytes (P := E.P) (w := w) vs ⟨cb.blk, cb.sh + o, none⟩ .empty v2 b2
      rw [v1] at hload
      have hva := variablesAt_cells (P := E.P) (a := ⟨cb.blk, cb.sh + o, none⟩) g1 u n.toNat
      rw [he, h1, Nat.div_one, liesAt_one h1 (by simp only; omega)] at hva
      obtain ⟨f1, f2, f3, f4, f5, f6⟩ := World.freeze_heap w ⟨cb.blk, cb.sh + o, none⟩ n.toNat _ g1
      obtain ⟨o', f3⟩ := f3
      refine fin (v := .string ⟨bs.toArray⟩) (w' := w.freeze ⟨cb.blk, cb.sh + o, none⟩ n.toNat) (M' := M) ?_ (.c _) (Step.upd (k' := .dead) K hM hF rfl f1 f2 ⟨o', f3, trivial⟩ f4 f5 f6)
      have n1 : ¬ n < 0 := by omega
      have n2 : ¬ n > IntKind.i64.max := by rw [hmax]; omega
      have hel : (elemOf t).run E.P w = .ok u w := by simp [elemOf, run_underlying hu]
      obtain ⟨s1, s2, s3, s4, heq⟩ := ustr_eq (ty := ty) ha (some ⟨cb.blk, cb.sh + o, none⟩) k n
      rw [heq]
      simp only [Sem.run_bind, Sem.run_pure, Result.andThen_ok, if_neg n1, if_neg n2, if_neg hn, hel, hva, if_true, hload]
      simp [b1, freeze, Sem.run]
  | _ => simp at hs

theorem rangeM_sim (K : HRel E.W0 M h.get w) {t kt et : TypeId} (hu : E.P.underlying t = some (.map kt et)) {a : Operand} {xs : List AV} {x : AV} {h' : H} (hfr : Fresh M h.len h'.len)
    (hx : LRel M xs [ρ a]) (hs : wstep E .rangeM xs h = some (x, h')) : AnsW E M h w (do pure (.value (← Instr.range t (ρ a)))) x h' := by
  obtain ⟨y, rfl, hy⟩ := hx.inv1
  generalize ρ a = ra at *
  have fin : ∀ {v w' M'}, (Instr.range t ra).run E.P w = .ok v w' → VRel M' x v → Step E.W0 M h w M' h' w' → AnsW E M h w (do pure (.value (← Instr.range t ra))) x h' :=
    fun {v w' M'} a b c => ⟨.value v, v, w', M', by simp [a], rfl, b, c⟩
  have lay : ∀ {k : AB} {o : Obj}, h' = h.push k → x = .ptr h.len 0 → (Instr.range t ra).run E.P w = .ok (.pointer (some ⟨w.heap.size, 0, none⟩)) { w with heap := w.heap.push o } →
      (MLe M (mput M h.len ⟨w.heap.size, 0, 0⟩) → BRel (mput M h.len ⟨w.heap.size, 0, 0⟩) ⟨w.heap.size, 0, 0⟩ k o) → AnsW E M h w (do pure (.value (← Instr.range t ra))) x h' := by
    intro k o e1 e2 hrun hb
    subst e1 e2
    have hN : M h.len = none := hfr h.len (Nat.le_refl _) (by simp)
    have hle : MLe M (mput M h.len ⟨w.heap.size, 0, 0⟩) := by
      intro j cb m
      by_cases e : j = h.len
      · subst e; rw [hN] at m; cases m
      · simp only [mput, if_neg e]; exact m
    obtain ⟨q1, q2, q3⟩ := push_heap w o
    obtain ⟨a1, a2, a3, a4⟩ := K.add (b := h.len) (sz := 0) (k := k) hN q1 q2 q3 rfl rfl rfl (fun _ => hb hle)
    exact fin hrun (.ptr (cb := ⟨w.heap.size, 0, 0⟩) (o := 0) (by simp [mput])) (Step.push a1 a2 a3 a4)
  cases hy with
  | c v =>
    cases ra <;> simp only [wstep] at hs <;> first | (cases hs; done) | skip
    rename_i p
    cases p with
    | some a => cases hs
    | none =>
      injection hs with e1
      injection e1 with e1 e2
      exact lay (o := .mapIter none 0 #[] 0) e2.symm e1.symm (by simp [Instr.range, run_underlying hu]) (fun _ => ⟨rfl, rfl, rfl, rfl, rfl⟩)
  | mp hM =>
    rename_i b cb
    simp only [wstep] at hs
    split at hs <;> first | (cases hs; done) | skip
    rename_i es clock hF
    injection hs with e1
    injection e1 with e1 e2
    obtain ⟨arr, g1, g2, _⟩ := K.mapAt hM hF
    exact lay (o := .mapIter (some cb.blk) clock #[] clock) e2.symm e1.symm (by simp [Instr.range, run_underlying hu, getObj_map g1]) (fun hle => ⟨rfl, rfl, rfl, rfl, cb, hle _ _ hM, rfl⟩)
  | _ => simp [wstep] at hs

/-- The entries of a map, one by one. -/
inductive ERel (M : BMap) : List (Value × AV × Nat) → List MapEntry → Prop
  | nil : ERel M [] []
  | cons {k : Value} {x : AV} {n : Nat} {a : MapEntry} {es : List (Value × AV × Nat)} {l : List MapEntry} (h1 : a.key = k) (h2 : a.born = n) (h3 : VRel M x a.val) (h : ERel M es l) : ERel M ((k, x, n) :: es) (a :: l)

theorem ERel.of {M : BMap} : ∀ {es : List (Value × AV × Nat)} {l : List MapEntry}, l.length = es.length → (∀ (i : Nat) k x n, es[i]? = some (k, x, n) → ∃ e, l[i]? = some e ∧ e.key = k ∧ e.born = n ∧ VRel M x e.val) → ERel M es l := by
  intro es
  induction es with
  | nil => intro l h _; have := List.length_eq_zero_iff.1 (by simpa using h); subst this; exact .nil
  | cons e es ih =>
    intro l h hh
    cases l with
    | nil => simp at h
    | cons a l =>
      obtain ⟨k, x, n⟩ := e
      obtain ⟨a', h0, h1, h2, h3⟩ := hh 0 k x n rfl
      simp only [List.getElem?_cons_zero, Option.some.injEq] at h0
      subst h0
      exact .cons h1 h2 h3 (ih (by simpa using h) fun i k x n hi => by simpa using hh (i + 1) k x n (by simpa using hi))

theorem ERel.filter {M : BMap} {p : Value × AV × Nat → Bool} {q : MapEntry → Bool} (hpq : ∀ k x (a : MapEntry), p (k, x, a.born) = q a) {es : List (Value × AV × Nat)} {l : List MapEntry} (h : ERel M es l) : ERel M (es.filter p) (l.filter q) := by
  induction h with
  | nil => exact .nil
  | cons h1 h2 h3 h ih =>
    rename_i k x n a es l
    subst h2
    simp only [List.filter_cons, hpq k x a]
    split
    · exact .cons h1 rfl h3 ih
    · exact ih
theorem ERel.all {M : BMap} {p : Value × AV × Nat → Bool} {q : MapEntry → Bool} (hpq : ∀ k x (a : MapEntry), p (k, x, a.born) = q a) {es : List (Value × AV × Nat)} {l : List MapEntry} (h : ERel M es l) : es.all p = l.all q := by
  induction h with
  | nil => rfl
  | cons h1 h2 h3 h ih =>
    subst h2
    simp only [List.all_cons, hpq, ih]
theorem ERel.empty {M : BMap} {es : List (Value × AV × Nat)} {l : List MapEntry} (h : ERel M es l) : es.isEmpty = l.isEmpty := by cases h <;> rfl
theorem ERel.mono {M M' : BMap} (hM : MLe M M') {es : List (Value × AV × Nat)} {l : List MapEntry} (h : ERel M es l) : ERel M' es l := by
  induction h with
  | nil => exact .nil
  | cons h1 h2 h3 h ih => exact .cons h1 h2 (h3.mono hM) ih

/-- What the next entry of a range over a map may be. -/
def candA (es : List (Value × AV × Nat)) (since : Nat) (seen : List Nat) : List (Option (Value × AV × Nat)) :=
  let left := es.filter fun e => !seen.contains e.2.2
  let old := left.filter fun e => e.2.2.blt since
  let new := left.filter fun e => !e.2.2.blt since
  (if old.isEmpty then [none] else []) ++ (old ++ new).map some

theorem ERel.mem {M : BMap} {es : List (Value × AV × Nat)} {l : List MapEntry} (h : ERel M es l) {a : MapEntry} (ha : a ∈ l) : ∃ x, (a.key, x, a.born) ∈ es ∧ VRel M x a.val := by
  induction h with
  | nil => simp at ha
  | cons h1 h2 h3 h ih =>
    rename_i k x n a' es l
    rcases List.mem_cons.1 ha with rfl | ha
    · subst h1 h2
      exact ⟨x, by simp, h3⟩
    · obtain ⟨y, p, q⟩ := ih ha
      exact ⟨y, by simp [p], q⟩

/-- The model's candidates. -/
def candM (arr : Array MapEntry) (since : Nat) (seen : Array Nat) : Array (Option MapEntry) :=
  let left := arr.filter fun e => !seen.contains e.born
  let old := left.filter (·.born < since)
  let new := left.filter (·.born ≥ since)
  (if old.isEmpty then #[none] else #[]) ++ (old ++ new).map some

theorem cand_rel {M : BMap} {es : List (Value × AV × Nat)} {arr : Array MapEntry} (hE : ERel M es arr.toList) (since : Nat) (seen : Array Nat) {c : Option MapEntry} (hc : c ∈ candM arr since seen) :
    (c = none ∧ none ∈ candA es since seen.toList) ∨ ∃ e x, c = some e ∧ some (e.key, x, e.born) ∈ candA es since seen.toList ∧ VRel M x e.val := by
  have e0 : ∀ (k : Value) (x : AV) (a : MapEntry), (fun e : Value × AV × Nat => !seen.toList.contains e.2.2) (k, x, a.born) = (fun e : MapEntry => !seen.contains e.born) a := fun k x a => by simp
  have e1 : ∀ (k : Value) (x : AV) (a : MapEntry), (fun e : Value × AV × Nat => e.2.2.blt since) (k, x, a.born) = (fun e : MapEntry => decide (e.born < since)) a := fun k x a => by
    simp only
    rw [Bool.eq_iff_iff, blt_iff]; simp
  have e2 : ∀ (k : Value) (x : AV) (a : MapEntry), (fun e : Value × AV × Nat => !e.2.2.blt since) (k, x, a.born) = (fun e : MapEntry => decide (e.born ≥ since)) a := fun k x a => by
    simp only
    rw [Bool.eq_iff_iff]
    simp only [Bool.not_eq_true', decide_eq_true_eq]
    constructor
    · intro h; exact Nat.le_of_not_lt fun x => by rw [blt_iff.2 x] at h; cases h
    · intro h; cases hb : a.born.blt since with
      | false => rfl
      | true => have := blt_iff.1 hb; omega
  have hold := (hE.filter (p := fun e : Value × AV × Nat => !seen.toList.contains e.2.2) (q := fun e : MapEntry => !seen.contains e.born) e0).filter (p := fun e : Value × AV × Nat => e.2.2.blt since) (q := fun e : MapEntry => decide (e.born < since)) e1
  have hnew := (hE.filter (p := fun e : Value × AV × Nat => !seen.toList.contains e.2.2) (q := fun e : MapEntry => !seen.contains e.born) e0).filter (p := fun e : Value × AV × Nat => !e.2.2.blt since) (q := fun e : MapEntry => decide (e.born ≥ since)) e2
  have hl : (candM arr since seen).toList = (if ((arr.toList.filter fun e => !seen.contains e.born).filter (fun e => decide (e.born < since))).isEmpty then [none] else []) ++
      (((arr.toList.filter fun e => !seen.contains e.born).filter (fun e => decide (e.born < since))) ++ ((arr.toList.filter fun e => !seen.contains e.born).filter (fun e => decide (e.born ≥ since)))).map some := by
    simp only [candM]
    rw [Array.toList_append]
    congr 1
    · have : ∀ a : Array MapEntry, a.isEmpty = a.toList.isEmpty := fun a => Array.isEmpty_toList.symm
      rw [this]
      simp only [Array.toList_filter]
      split <;> rfl
    · simp
  have hc' : c ∈ (candM arr since seen).toList := by simpa using hc
  rw [hl] at hc'
  rcases List.mem_append.1 hc' with h | h
  · left
    split at h
    · rename_i hemp
      simp only [List.mem_singleton] at h
      refine ⟨h, ?_⟩
      simp only [candA]
      rw [hold.empty, hemp]
      simp
    · simp at h
  · right
    obtain ⟨e, he, rfl⟩ := List.mem_map.1 h
    rcases List.mem_append.1 he with he | he
    · obtain ⟨x, p, q⟩ := hold.mem he
      exact ⟨e, x, rfl, by simp only [candA]; exact List.mem_append_right _ (List.mem_map.2 ⟨_, List.mem_append_left _ p, rfl⟩), q⟩
    · obtain ⟨x, p, q⟩ := hnew.mem he
      exact ⟨e, x, rfl, by simp only [candA]; exact List.mem_append_right _ (List.mem_map.2 ⟨_, List.mem_append_right _ p, rfl⟩), q⟩

theorem cand_pos (arr : Array MapEntry) (since : Nat) (seen : Array Nat) : 0 < (candM arr since seen).size := by
  simp only [candM]
  split
  · simp; omega
  · rename_i h
    simp only [Array.size_append, Array.size_map]
    have : ((arr.filter fun e => !seen.contains e.born).filter (fun e => decide (e.born < since))).size ≠ 0 := fun x => h (by simp only [Array.isEmpty, x, decide_true])
    omega

theorem choose_run {P : Program} (q : Question) (hq : ∃ n, q = .mapNext n ∧ 0 < n) : ∃ k d, (choose q).run P w = .ok k { w with drawn := d } ∧ ∀ n, q = .mapNext n → k < n := by
  obtain ⟨n, rfl, hn⟩ := hq
  by_cases hf : n ≤ 1
  · exact ⟨0, w.drawn, by simp [choose, Sem.run, Question.forced, hf], fun m h => by injection h with h; omega⟩
  · exact ⟨w.tape w.drawn (.mapNext n) % n, w.drawn + 1, by simp [choose, Sem.run, Question.forced, hf, Question.cut], fun m h => by injection h with h; subst h; exact Nat.mod_lt _ hn⟩

theorem getObj_drew {P : Program} {r : Nat} {o : Obj} (h : w.heap[r]? = some o) (hc : ∀ c e f, o ≠ .cells c e f) : (getObj r).run P w = .ok o w := by
  cases o <;> first | (exact absurd rfl (hc _ _ _)) | simp [getObj, Sem.run, h]

/-- The operation 'next' over a map, whatever is drawn. -/
theorem next_any (K : HRel E.W0 M h.get w) {ty : TypeId} {b m : Nat} {cb cbm : CB} {es : List (Value × AV × Nat)} {since last clock : Nat} {seen : List Nat} (hM : M b = some cb) (hF : h.get b = some (.miter (some m) since seen last))
    (hMm : M m = some cbm) (hFm : h.get m = some (.map es clock)) (hg : (!seen.isEmpty && !es.isEmpty && es.all (fun e => last.ble e.2.2)) = false) :
    ∃ (c : Option (Value × AV × Nat)) (d : Nat), c ∈ candA es since seen ∧ ∃ (seen' : Array Nat), seen'.toList = seen ∧ w.heap[cb.blk]? = some (.mapIter (some cbm.blk) since seen' last) ∧ match c with
      | none => (Instr.next (.pointer (some ⟨cb.blk, 0, none⟩)) false ty).run E.P w = .ok (.tuple #[.bool false]) { w with drawn := d }
      | some (k, x, n) => ∃ v, VRel M x v ∧ (Instr.next (.pointer (some ⟨cb.blk, 0, none⟩)) false ty).run E.P w =
          .ok (.tuple #[.bool true, k, v]) { w with drawn := d, heap := w.heap.setIfInBounds cb.blk (.mapIter (some cbm.blk) since (seen'.push n) clock) } := by
  obtain ⟨o, g1, g2⟩ := K.has b cb _ hM hF rfl
  cases o <;> simp only [BRel] at g2
  rename_i m' since' seen' last'
  obtain ⟨rfl, rfl, rfl, g3, cbm', g4, rfl⟩ := g2
  rw [hMm] at g4
  injection g4 with g4
  subst g4
  obtain ⟨arr, q1, q2, q3⟩ := K.mapAt hMm hFm
  have hE : ERel M es arr.toList := ERel.of (by simpa using q2) (fun i k x n hi => by
    obtain ⟨e, e1, e2⟩ := q3 i k x n hi
    exact ⟨e, by simpa using e1, e2⟩)
  have hguard : (!seen'.isEmpty && !arr.isEmpty && arr.all (fun e => decide (e.born ≥ last'))) = false := by
    rw [← hg, hE.all (q := fun e => decide (e.born ≥ last')) (fun k x a => by
      simp only
      rw [Bool.eq_iff_iff, Nat.ble_eq]; simp), hE.empty]
    have e1 : seen'.isEmpty = seen'.toList.isEmpty := Array.isEmpty_toList.symm
    have e2 : arr.isEmpty = arr.toList.isEmpty := Array.isEmpty_toList.symm
    have e3 : arr.all (fun e => decide (e.born ≥ last')) = arr.toList.all (fun e => decide (e.born ≥ last')) := by simp
    rw [e1, e2, e3]
  obtain ⟨k, d, c1, c2⟩ := choose_run (P := E.P) (w := w) (.mapNext (candM arr since' seen').size) ⟨_, rfl, cand_pos _ _ _⟩
  have hk := c2 _ rfl
  have hget : (candM arr since' seen')[k]? = some (candM arr since' seen')[k] := Array.getElem?_eq_getElem hk
  have hmem : (candM arr since' seen')[k] ∈ candM arr since' seen' := Array.getElem_mem hk
  have hrun : (Instr.next (.pointer (some ⟨cb.blk, 0, none⟩)) false ty).run E.P w = (match (candM arr since' seen')[k] with
      | some e => (do
        setObj cb.blk (.mapIter (some cbm.blk) since' (seen'.push e.born) clock)
        pure (.tuple #[.bool true, e.key, e.val]) : Sem Value)
      | none => pure (.tuple #[.bool false])).run E.P { w with drawn := d } := by
    simp only [Instr.next, Sem.run_bind, getObj_drew g1 (fun _ _ _ h => by cases h), Result.andThen_ok, getObj_drew q1 (fun _ _ _ h => by cases h), hguard]
    simp only [Bool.false_eq_true, if_false, Sem.run_bind, Sem.run_pure, Result.andThen_ok]
    show ((choose (.mapNext (candM arr since' seen').size)).run E.P w).andThen _ = _
    rw [c1, Result.andThen_ok]
    show Sem.run E.P (match (candM arr since' seen')[k]? with
      | some (some e) => _
      | some none => _
      | none => _) _ = _
    rw [hget]
    generalize (candM arr since' seen')[k] = c
    cases c <;> rfl
  rw [hrun]
  generalize hce : (candM arr since' seen')[k] = c at *
  rcases cand_rel hE since' seen' hmem with ⟨rfl, p⟩ | ⟨e, x, rfl, p, q⟩
  · exact ⟨none, d, p, seen', rfl, g1, by simp⟩
  · refine ⟨some (e.key, x, e.born), d, p, seen', rfl, g1, e.val, q, ?_⟩
    simp only [Sem.run_bind]
    rw [setObj_run (w := { w with drawn := d }) (o := .mapIter (some cbm.blk) since' seen' last') (by exact g1) (fun _ _ _ h => by cases h)]
    simp

theorem ERel.find {M : BMap} {p : Value × AV × Nat → Bool} {q : MapEntry → Bool} (hpq : ∀ k x (a : MapEntry), p (k, x, a.born) = q a) {es : List (Value × AV × Nat)} {l : List MapEntry} (h : ERel M es l) {k : Value} {x : AV} {n : Nat} (hf : es.find? p = some (k, x, n)) :
    ∃ a, l.find? q = some a ∧ a.key = k ∧ VRel M x a.val := by
  induction h with
  | nil => cases hf
  | cons h1 h2 h3 h ih =>
    rename_i k' x' n' a es l
    subst h2
    have e := hpq k' x' a
    rw [List.find?_cons] at hf
    rw [List.find?_cons, ← e]
    cases hp : p (k', x', a.born) with
    | true =>
      rw [hp] at hf
      injection hf with hf
      injection hf with e1 hf
      injection hf with e2 e3
      subst e1 e2
      exact ⟨a, rfl, h1, h3⟩
    | false =>
      rw [hp] at hf
      exact ih hf

theorem entryM_sim (K : HRel E.W0 M F w) {a : Operand} {xs : List AV} {x : AV} (hx : LRel M xs [ρ a]) (hs : lstep E .entryM xs F = some x) : AnsR E M F w (do pure (.value (← Instr.entry (ρ a)))) x := by
  obtain ⟨y, rfl, hy⟩ := hx.inv1
  cases y <;> simp only [lstep] at hs <;> first | (cases hs; done) | skip
  rename_i b o
  cases o with
  | succ o => cases hs
  | zero =>
    simp only at hs
    generalize ρ a = ra at *
    cases hy with
    | ptr hM =>
      rename_i cb
      split at hs <;> first | (cases hs; done) | skip
      rename_i m since seen st hF
      split at hs <;> first | (cases hs; done) | skip
      rename_i n hn
      split at hs <;> first | (cases hs; done) | skip
      rename_i es clock hFm
      obtain ⟨hc, hs2⟩ := bif_some hs
      clear hs
      have hc := Nat.eq_of_beq_eq_true hc
      subst hc
      split at hs2 <;> first | (cases hs2; done) | skip
      rename_i k x n' hfind
      injection hs2 with hs2; subst hs2
      obtain ⟨o, g1, g2⟩ := K.has b cb _ hM hF rfl
      cases o <;> simp only [BRel] at g2
      rename_i m' since' seen' last'
      obtain ⟨rfl, rfl, rfl, g3, cbm, hMm, rfl⟩ := g2
      obtain ⟨arr, q1, q2, q3⟩ := K.mapAt hMm hFm
      have hE : ERel M es arr.toList := ERel.of (by simpa using q2) (fun i k x n hi => by
        obtain ⟨e, e1, e2⟩ := q3 i k x n hi
        exact ⟨e, by simpa using e1, e2⟩)
      obtain ⟨e, e1, e2, e3⟩ := hE.find (q := fun e => e.born == n) (fun k x a => by simp only; rw [Bool.eq_iff_iff, Nat.beq_eq]; simp) hfind
      refine ansR (u := .tuple #[e.key, e.val]) K ?_ (.tup' (LRel.cons (by rw [e2]; exact .c _) (LRel.cons e3 .nil)))
      have hb : seen'.back? = some n := by rw [← Array.getLast?_toList]; exact hn
      have hfa : arr.find? (fun e => e.born == n) = some e := by rw [← Array.find?_toList]; exact e1
      simp [Instr.entry, g3, getObj_drew g1 (fun _ _ _ h => by cases h), getObj_drew q1 (fun _ _ _ h => by cases h), hb, hfa]

theorem nextM_sim (K : HRel E.W0 M h.get w) {ty : TypeId} {a : Operand} {xs : List AV} {x : AV} {h' : H}
    (hx : LRel M xs [ρ a]) (hs : wstep E .nextM xs h = some (x, h')) : AnsW E M h w (do pure (.value (← Instr.next (ρ a) false ty))) x h' := by
  obtain ⟨y, rfl, hy⟩ := hx.inv1
  cases y <;> simp only [wstep] at hs <;> first | (cases hs; done) | skip
  rename_i b o
  cases o with
  | succ o => cases hs
  | zero =>
    simp only at hs
    generalize ρ a = ra at *
    have fin : ∀ {v w' M'}, (Instr.next ra false ty).run E.P w = .ok v w' → VRel M' x v → Step E.W0 M h w M' h' w' → AnsW E M h w (do pure (.value (← Instr.next ra false ty))) x h' :=
      fun {v w' M'} a b c => ⟨.value v, v, w', M', by simp [a], rfl, b, c⟩
    cases hy with
    | ptr hM =>
      rename_i cb
      split at hs <;> first | (cases hs; done) | skip
      · rename_i since seen last hF
        injection hs with e1
        injection e1 with e1 e2
        subst e1 e2
        obtain ⟨o, g1, g2⟩ := K.has b cb _ hM hF rfl
        cases o <;> simp only [BRel] at g2
        obtain ⟨rfl, rfl, rfl, g3, rfl⟩ := g2
        refine fin (v := .tuple #[.bool false]) (w' := w) (M' := M) ?_ (.tup' (LRel.cons (.c _) .nil)) (Step.refl K)
        simp [g3, Instr.next, getObj_drew g1 (fun _ _ _ h => by cases h)]
      · rename_i m since seen last hF
        split at hs <;> first | (cases hs; done) | skip
        rename_i es clock hFm
        cases hg : (!seen.isEmpty && !es.isEmpty && es.all (fun e => last.ble e.2.2)) with
        | true => rw [hg] at hs; cases hs
        | false =>
          rw [hg, cond_false] at hs
          obtain ⟨o, g1, g2⟩ := K.has b cb _ hM hF rfl
          cases o <;> simp only [BRel] at g2
          obtain ⟨_, _, _, g3, cbm, hMm, _⟩ := g2
          simp only [g3, Nat.zero_add] at fin ⊢
          obtain ⟨c, d, c1, seen', c2, c3, c4⟩ := next_any (ty := ty) K hM hF hMm hFm hg
          simp only [candA] at c1
          have drew : Step E.W0 M h w M h { w with drawn := d } := by
            refine ⟨Nat.le_refl _, MLe.refl _, fun _ a c => absurd a c, ⟨K.has, K.inj, K.bnd, ⟨K.old.os, K.old.tape, K.old.output, K.old.size, K.old.block⟩⟩, ⟨Nat.le_refl _, fun _ _ _ => rfl⟩, fun _ _ _ => rfl, fun _ a => .inl a⟩
          split at hs <;> first | (cases hs; done) | skip
          · rename_i hl
            injection hs with e1
            injection e1 with e1 e2
            subst e1 e2
            rw [hl] at c1
            simp at c1
            subst c1
            exact fin (v := .tuple #[.bool false]) c4 (.tup' (LRel.cons (.c _) .nil)) drew
          · rename_i k y n hl
            obtain ⟨hlt, e1⟩ := bif_true hs
            injection e1 with e1 e2
            subst e1 e2
            rw [hl] at c1
            simp [hlt] at c1
            subst c1
            obtain ⟨v, v1, v2⟩ := c4
            obtain ⟨q1, q2, q3⟩ := setObj_heap (o' := .mapIter (some cbm.blk) since (seen'.push n) clock) c3
            exact fin v2 (.tup' (LRel.cons (.c _) (LRel.cons (.c _) (LRel.cons v1 .nil)))) (Step.upd (k' := .miter (some m) since (seen ++ [n]) clock) K hM hF rfl q1 q2 ⟨_, q3, rfl, by simp [c2], rfl, g3, cbm, hMm, rfl⟩ rfl rfl rfl)
end
end Go.Sx
