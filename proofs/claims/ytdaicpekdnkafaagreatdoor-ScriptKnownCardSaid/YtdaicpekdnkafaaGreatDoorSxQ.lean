import Derived.Test.YtdaicpekdnkafaaGreatDoorSxP
namespace Go.Sx
open Go Go.RowKit
section
variable {E : Env} {ρ : Operand → Value} {M : BMap} {h : H} {w : World}

theorem growBy_le (n : Nat) : ∀ (r c : Nat), Builtin.growBy n r c ≤ max c (n + (n + 768) / 4) := by
  intro r
  induction r with
  | zero => intro c; simp [Builtin.growBy]; omega
  | succ r ih =>
    intro c
    simp only [Builtin.growBy]
    split
    · omega
    · have := ih (c + (c + 768) / 4); omega
theorem nextcap_le {n c : Nat} (hc : c < n) : Builtin.nextslicecap n c ≤ 2 * n + 1000 := by
  unfold Builtin.nextslicecap
  split
  · omega
  · split
    · omega
    · have := growBy_le n 4 c; omega

/-- The new array of an append. -/
theorem drewPush_heap (w : World) (o : Obj) : ({ w with drawn := w.drawn + 1, heap := w.heap.push o } : World).heap.size = w.heap.size + 1 ∧
    (∀ i, i < w.heap.size → ({ w with drawn := w.drawn + 1, heap := w.heap.push o } : World).heap[i]? = w.heap[i]?) ∧ ({ w with drawn := w.drawn + 1, heap := w.heap.push o } : World).heap[w.heap.size]? = some o := by
  refine ⟨by simp, fun i hi => ?_, ?_⟩
  · simp [Array.getElem?_push, Nat.ne_of_lt hi]
  · simp

/-- A row of cells is written behind an address, or there is none. -/
def storedBy (P : Program) : Option Addr → Nat → List Value → World → World → Prop
  | some a, k, l, w, w' => (storeCells (a.add k) l).run P w = .ok () w'
  | none, _, _, w, w' => w' = w

theorem append_in {P : Program} {t u e : TypeId} {d : TypeDesc} {i : TypeInfo} {argTypes : Array TypeId} (ha : argTypes[0]? = some t) (hb : argTypes[1]? = some u) (ht : P.underlying t = some (.slice e)) (hu : P.underlying u = some d)
    (hd : isIntD d = false) (hi : P.info? e = some i) (ty : TypeId) (base : Option Addr) (l cap : Nat) (x : Value) {n : Nat} {w : World} (hn : (Builtin.lenOf x).run P w = .ok n w)
    {arr : Array Value} (hr : (Builtin.firstCells i.size n x).run P w = .ok arr w) (hle : l + n ≤ cap) {w' : World}
    (hst : storedBy P base (l * i.size) arr.toList w w') :
    (Builtin.append_ argTypes ty #[.slice base l cap, x]).run P w = .ok (.slice base (l + n) cap) w' := by
  have hsz : (sizeOf e).run P w = .ok i.size w := by simp [sizeOf, typeInfo, hi]
  simp only [Builtin.append_, ha, hb, List.getElem?_toArray, List.getElem?_cons_zero, List.getElem?_cons_succ, Sem.run_bind, run_underlying ht, run_underlying hu, Result.andThen_ok, hsz, Sem.run_pure]
  cases d <;> simp only [isIntD, Bool.true_eq_false] at hd
  all_goals
    simp only [Bool.false_eq_true, if_false, Bool.not_false, if_true, Sem.run_bind, hn, Result.andThen_ok, if_pos hle, hr]
    cases base with
    | none => simp only [storedBy] at hst; subst hst; simp
    | some a => simp only [storedBy] at hst; simp [hst]

theorem append_out {P : Program} {t u e : TypeId} {d : TypeDesc} {i : TypeInfo} {argTypes : Array TypeId} (ha : argTypes[0]? = some t) (hb : argTypes[1]? = some u) (ht : P.underlying t = some (.slice e)) (hu : P.underlying u = some d)
    (hd : isIntD d = false) (hi : P.info? e = some i) (ty : TypeId) (base : Option Addr) (l cap : Nat) (x : Value) {n : Nat} {w : World} (hn : (Builtin.lenOf x).run P w = .ok n w)
    {arr old : Array Value} {zv : Value} (hr : ∀ d : Nat, (Builtin.firstCells i.size n x).run P { w with drawn := d } = .ok arr { w with drawn := d }) (ho : ∀ d : Nat, (Builtin.firstCells i.size l (.slice base l cap)).run P { w with drawn := d } = .ok old { w with drawn := d })
    (hz : i.zero = some zv) (hle : ¬ l + n ≤ cap) (hb0 : i.bytes ≠ 0) (hbd : (2 * (l + n) + 1000) * i.bytes ≤ 2 ^ 48) :
    ∃ c, l + n ≤ c ∧ (Builtin.append_ argTypes ty #[.slice base l cap, x]).run P w = .ok (.slice (some ⟨w.heap.size, 0, none⟩) (l + n) c)
      { w with drawn := w.drawn + 1, heap := w.heap.push (.cells (old ++ arr ++ Builtin.zeroCells zv.cells (c - (l + n))) e) } := by
  have hsz : ∀ w : World, (sizeOf e).run P w = .ok i.size w := fun w => by simp [sizeOf, typeInfo, hi]
  have hti : ∀ w : World, (typeInfo e).run P w = .ok i w := fun w => by simp [typeInfo, hi]
  have hzr : ∀ w : World, (zeroValue e).run P w = .ok zv w := fun w => run_zeroValue w hi hz
  have hq : ¬ (Question.appendCap (l + n) cap e).forced = true := by simp [Question.forced]
  have hcap : ¬ Builtin.nextslicecap (l + n) cap * i.bytes > 2 ^ 48 := by
    have h1 := nextcap_le (n := l + n) (c := cap) (by omega)
    have h2 := Nat.mul_le_mul_right i.bytes h1
    omega
  refine ⟨(Question.appendCap (l + n) cap e).cut (w.tape w.drawn (.appendCap (l + n) cap e)), by simp [Question.cut], ?_⟩
  have hr' := hr (w.drawn + 1)
  have ho' := ho (w.drawn + 1)
  simp only [Builtin.append_, ha, hb, List.getElem?_toArray, List.getElem?_cons_zero, List.getElem?_cons_succ, Sem.run_bind, run_underlying ht, run_underlying hu, Result.andThen_ok, hsz, Sem.run_pure]
  cases d <;> simp only [isIntD, Bool.true_eq_false] at hd
  all_goals
    simp only [Bool.false_eq_true, if_false, Bool.not_false, if_true, Sem.run_bind, hn, Result.andThen_ok, if_neg hle, hti, hb0, or_self, and_false, if_neg hcap, run_choose, if_neg hq, run_askRoom, ho', hr', hzr, newRow, run_newObj, Sem.run_pure]
theorem append_inZ {P : Program} {t u e : TypeId} {d : TypeDesc} {i : TypeInfo} {argTypes : Array TypeId} (ha : argTypes[0]? = some t) (hb : argTypes[1]? = some u) (ht : P.underlying t = some (.slice e)) (hu : P.underlying u = some d)
    (hd : isIntD d = true) (hi : P.info? e = some i) (ty : TypeId) (base : Option Addr) (l cap : Nat) (kk : IntKind) {iv : Int} {n : Nat} {w : World} {zv : Value} (hz : i.zero = some zv) (h0 : 0 ≤ iv) (h62 : iv < 2 ^ 48) (hnn : iv.toNat = n) (hbb : iv * i.bytes ≤ 2 ^ 48)
    {arr : Array Value} (hr : arr = if n * i.size = 0 then #[] else Builtin.zeroCells zv.cells n) (hle : l + n ≤ cap) {w' : World}
    (hst : storedBy P base (l * i.size) arr.toList w w') :
    (Builtin.append_ argTypes ty #[.slice base l cap, .int kk iv]).run P w = .ok (.slice base (l + n) cap) w' := by
  have hsz : (sizeOf e).run P w = .ok i.size w := by simp [sizeOf, typeInfo, hi]
  have hti : ∀ w : World, (typeInfo e).run P w = .ok i w := fun w => by simp [typeInfo, hi]
  have hzr : ∀ w : World, (zeroValue e).run P w = .ok zv w := fun w => run_zeroValue w hi hz
  have hwr : IntKind.i64.wrap iv = iv := wrap_small h0 (by omega)
  have h1 : ¬ iv < 0 := by omega
  have h2 : ¬ iv * (i.bytes : Int) > 2 ^ 48 := by omega
  simp only [Builtin.append_, ha, hb, List.getElem?_toArray, List.getElem?_cons_zero, List.getElem?_cons_succ, Sem.run_bind, run_underlying ht, run_underlying hu, Result.andThen_ok, hsz, Sem.run_pure]
  cases d <;> simp only [isIntD, Bool.false_eq_true] at hd
  simp only [if_true, Bool.not_true, Bool.false_eq_true, if_false, Sem.run_bind, asInt, asIntOf, Sem.run_pure, Result.andThen_ok, hwr, if_neg h1, hti, if_neg h2, hnn, if_pos hle]
  have hap : (if n * i.size = 0 then pure #[] else do pure (Builtin.zeroCells (← zeroValue e).cells n) : Sem (Array Value)).run P w = .ok arr w := by
    rw [hr]; split
    · rfl
    · simp [hzr]
  simp only [hap, Result.andThen_ok]
  cases base with
  | none => simp only [storedBy] at hst; subst hst; simp
  | some a => simp only [storedBy] at hst; simp [hst]

theorem append_outZ {P : Program} {t u e : TypeId} {d : TypeDesc} {i : TypeInfo} {argTypes : Array TypeId} (ha : argTypes[0]? = some t) (hb : argTypes[1]? = some u) (ht : P.underlying t = some (.slice e)) (hu : P.underlying u = some d)
    (hd : isIntD d = true) (hi : P.info? e = some i) (ty : TypeId) (base : Option Addr) (l cap : Nat) (kk : IntKind) {iv : Int} {n : Nat} {w : World} {zv : Value} (h0 : 0 ≤ iv) (h62 : iv < 2 ^ 48) (hnn : iv.toNat = n) (hbb : iv * i.bytes ≤ 2 ^ 48)
    {arr old : Array Value} (hr : arr = if n * i.size = 0 then #[] else Builtin.zeroCells zv.cells n) (ho : ∀ d : Nat, (Builtin.firstCells i.size l (.slice base l cap)).run P { w with drawn := d } = .ok old { w with drawn := d })
    (hz : i.zero = some zv) (hle : ¬ l + n ≤ cap) (hb0 : i.bytes ≠ 0) (hbd : (2 * (l + n) + 1000) * i.bytes ≤ 2 ^ 48) :
    ∃ c, l + n ≤ c ∧ (Builtin.append_ argTypes ty #[.slice base l cap, .int kk iv]).run P w = .ok (.slice (some ⟨w.heap.size, 0, none⟩) (l + n) c)
      { w with drawn := w.drawn + 1, heap := w.heap.push (.cells (old ++ arr ++ Builtin.zeroCells zv.cells (c - (l + n))) e) } := by
  have hsz : ∀ w : World, (sizeOf e).run P w = .ok i.size w := fun w => by simp [sizeOf, typeInfo, hi]
  have hti : ∀ w : World, (typeInfo e).run P w = .ok i w := fun w => by simp [typeInfo, hi]
  have hzr : ∀ w : World, (zeroValue e).run P w = .ok zv w := fun w => run_zeroValue w hi hz
  have hq : ¬ (Question.appendCap (l + n) cap e).forced = true := by simp [Question.forced]
  have hcap : ¬ Builtin.nextslicecap (l + n) cap * i.bytes > 2 ^ 48 := by
    have h1 := nextcap_le (n := l + n) (c := cap) (by omega)
    have h2 := Nat.mul_le_mul_right i.bytes h1
    omega
  refine ⟨(Question.appendCap (l + n) cap e).cut (w.tape w.drawn (.appendCap (l + n) cap e)), by simp [Question.cut], ?_⟩
  have hwr : IntKind.i64.wrap iv = iv := wrap_small h0 (by omega)
  have h1 : ¬ iv < 0 := by omega
  have h2 : ¬ iv * (i.bytes : Int) > 2 ^ 48 := by omega
  have h3 : ¬ (((l + n : Nat) : Int) > IntKind.i64.max) := by
    have : l + n ≤ 2 ^ 48 := by
      have := Nat.le_mul_of_pos_right (2 * (l + n) + 1000) (show 0 < i.bytes by omega)
      omega
    simp [IntKind.max, IntKind.signed, IntKind.bits]; omega
  have ho' := ho (w.drawn + 1)
  simp only [Builtin.append_, ha, hb, List.getElem?_toArray, List.getElem?_cons_zero, List.getElem?_cons_succ, Sem.run_bind, run_underlying ht, run_underlying hu, Result.andThen_ok, hsz, Sem.run_pure]
  cases d <;> simp only [isIntD, Bool.false_eq_true] at hd
  have hap : ∀ w, (if n * i.size = 0 then pure #[] else do pure (Builtin.zeroCells (← zeroValue e).cells n) : Sem (Array Value)).run P w = .ok arr w := by
    intro w
    rw [hr]; split
    · rfl
    · simp [hzr]
  simp only [if_true, Bool.not_true, Bool.false_eq_true, if_false, Sem.run_bind, asInt, asIntOf, Sem.run_pure, Result.andThen_ok, hwr, if_neg h1, hti, if_neg h2, hnn, if_neg hle, h3, false_and, if_neg hcap, run_choose, if_neg hq, run_askRoom, ho', hap, hzr, newRow, run_newObj]
end
end Go.Sx
