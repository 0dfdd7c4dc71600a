import Derived.Test.YtdaicpekdnkafaaGreatDoorSxN
namespace Go.Sx
open Go Go.RowKit
section
variable {E : Env} {ρ : Operand → Value} {M : BMap} {F : Nat → Option AB} {w : World}

theorem wrap_small {n : Int} (h0 : 0 ≤ n) (h1 : n < 2 ^ 62) : IntKind.i64.wrap n = n := by
  simp only [IntKind.wrap, IntKind.bits, IntKind.signed]
  have : n % (2 ^ 64 : Int) = n := Int.emod_eq_of_lt h0 (by omega)
  simp only [this, Bool.true_and]
  rw [if_neg (by simp; omega)]

theorem flatten_len {z : List AV} (n : Nat) : ((List.replicate n z).flatten).length = n * z.length := by
  simp

theorem makeSl_sim (H : HRel E.W0 M F w) {t e : TypeId} {i : TypeInfo} {z : List AV} (hu : E.P.underlying t = some (.slice e)) (hi : E.P.info? e = some i) (hz : zeroOf E.P e = some z)
    {a c : Operand} {xs : List AV} (hx : LRel M xs [ρ a, ρ c]) {b : Nat} (hM : M b = none) {k : AB} {x : AV} (hs : astepNew (.makeSl e i.size i.bytes z) xs b = some (k, x)) :
    ∃ cb nx v w', AnsN E M F w b k (do pure (.value (← Instr.makeSlice t (ρ a) (ρ c)))) x cb nx v w' := by
  obtain ⟨y, y', rfl, hy, hy'⟩ := hx.inv2
  cases y <;> simp only [astepNew] at hs <;> first | (cases hs; done) | skip
  rename_i u
  cases y' <;> (try simp only at hs) <;> first | (cases hs; done) | (cases u <;> (try simp only at hs) <;> (try cases hs); done) | skip
  rename_i u'
  cases u <;> (try simp only at hs) <;> first | (cases hs; done) | skip
  rename_i k1 n
  cases k1 <;> (try simp only at hs) <;> first | (cases hs; done) | skip
  cases u' <;> (try simp only at hs) <;> first | (cases hs; done) | skip
  rename_i k2 m
  cases k2 <;> (try simp only at hs) <;> first | (cases hs; done) | skip
  obtain ⟨hp, e1⟩ := bif_true hs
  injection e1 with e1 e2
  subst e1 e2
  simp only [Bool.and_eq_true, decide_eq_true_eq] at hp
  obtain ⟨⟨⟨⟨⟨h0, h1⟩, h2⟩, h3⟩, h4⟩, h5⟩ := hp
  have h5 := Nat.eq_of_beq_eq_true h5
  obtain ⟨i', zv, hi', hzv, hzc⟩ := zeroOf_spec hz
  rw [hi] at hi'; injection hi' with hi'; subst hi'
  have hzs : zv.cells.size = i.size := by rw [← h5, hzc]; simp
  have hea := hy.c_inv
  have hec := hy'.c_inv
  have hm0 : 0 ≤ m := by omega
  have wn : IntKind.i64.wrap n = n := wrap_small h0 (by omega)
  have wm : IntKind.i64.wrap m = m := wrap_small hm0 h3
  have hbytes : ¬ ((i.bytes : Int) * m > 2 ^ 48) := by rw [Int.mul_comm]; omega
  let arr : Array Value := (Array.range (m.toNat * i.size)).map (fun j => (if m.toNat * i.size = 0 then #[] else zv.cells)[j % (if m.toNat * i.size = 0 then #[] else zv.cells : Array Value).size]!)
  have harr : arr.toList = (List.replicate m.toNat zv.cells.toList).flatten := by
    by_cases h0 : m.toNat * i.size = 0
    · have e : arr.toList = [] := by simp [arr, h0]
      rw [e]
      rcases Nat.mul_eq_zero.1 h0 with h | h
      · simp [h]
      · have : zv.cells.toList = [] := by apply List.eq_nil_of_length_eq_zero; simp [hzs, h]
        simp [this]
    · have e : arr = (Array.range (m.toNat * i.size)).map (fun j => zv.cells[j % zv.cells.size]!) := by simp only [arr, if_neg h0]
      rw [e, ← hzs, range_mod]
  have hsz : arr.size = m.toNat * i.size := by simp [arr]
  have hrun : (Instr.makeSlice t (.int .i64 n) (.int .i64 m)).run E.P w = .ok (.slice (some ⟨w.heap.size, 0, none⟩) n.toNat m.toNat) { w with heap := w.heap.push (.cells arr e) } := by
    have hc1 : (m < 0 || (i.bytes : Int) * m > 2 ^ 48) = false := by simp; exact ⟨hm0, by simpa using hbytes⟩
    simp only [Instr.makeSlice, Sem.run_bind, run_underlying hu, Result.andThen_ok, asInt, asIntOf, Sem.run_pure, typeInfo, run_program, hi, wn, wm]
    have hcond : ((decide (m < 0) || decide ((i.bytes : Int) * m > 2 ^ 48) || decide (n < 0) || decide (n > m)) = true) = False := by
      simp; exact ⟨⟨⟨hm0, by simpa using hbytes⟩, h0⟩, h1⟩
    rw [Sem.run_ite]
    rw [if_neg (by rw [hcond]; exact id)]
    simp only [Sem.run_bind, run_askRoom, Result.andThen_ok, run_sizeOf' w (show sizeP E.P e = some i.size by simp [sizeP, hi])]
    by_cases h00 : m.toNat * i.size = 0
    · have e9 : arr = (Array.range (m.toNat * i.size)).map (fun x => (#[] : Array Value)[x % (#[] : Array Value).size]!) := by simp only [arr, if_pos h00]
      rw [if_pos h00, e9]
      simp only [Sem.run_bind, Sem.run_pure, Result.andThen_ok, newRow, run_newObj]
    · have e9 : arr = (Array.range (m.toNat * i.size)).map (fun x => zv.cells[x % zv.cells.size]!) := by simp only [arr, if_neg h00]
      rw [if_neg h00, e9]
      simp only [Sem.run_bind, Sem.run_pure, Result.andThen_ok, newRow, run_newObj, run_zeroValue w hi hzv]
  obtain ⟨p, q, r⟩ := push_heap w (.cells arr e)
  rw [hea, hec]
  refine ansN (sz := arr.size) (o := .cells arr e) H hM hrun p q r rfl rfl rfl (fun hle => ?_) ?_
  · refine brel_cells ?_ ?_ ?_
    · rw [harr, flatten_len, h5]
      have hr := replicate_rel (M := mput M b ⟨w.heap.size, 0, arr.size⟩) (z := z) (zs := zv.cells.toList) (by rw [hzc]; exact LRel.consts _) n.toNat
      have e : (List.replicate m.toNat zv.cells.toList).flatten = (List.replicate n.toNat zv.cells.toList).flatten ++ (List.replicate (m.toNat - n.toNat) zv.cells.toList).flatten := by
        rw [← List.flatten_append, List.replicate_append_replicate]; congr 2; omega
      rw [e, List.take_append_of_le_length (by simp [hzs]), List.take_of_length_le (by simp [hzs])]
      exact hr
    · rw [flatten_len, h5, hsz]; exact Nat.mul_le_mul_right _ (by omega)
    · unfold allLeaf at h4 ⊢
      rw [List.all_eq_true] at h4 ⊢
      intro y hy
      simp only [List.mem_flatten, List.mem_replicate] at hy
      obtain ⟨l, ⟨_, rfl⟩, hy⟩ := hy
      exact h4 y hy
  · refine .sl (cb := ⟨w.heap.size, 0, arr.size⟩) (by simp [mput]) (by omega) (fun _ => ?_) (fun _ => by simp)
    simp only [hsz, Nat.zero_add, Nat.le_refl]

theorem s2b_sim (H : HRel E.W0 M F w) {s d e : TypeId} (h1 : E.P.underlying s = some .string) (h2 : E.P.underlying d = some (.slice e)) (h3 : E.P.underlying e = some (.int .u8))
    {a : Operand} {xs : List AV} (hx : LRel M xs [ρ a]) {b : Nat} (hM : M b = none) {k : AB} {x : AV} (hs : astepNew (.s2b e) xs b = some (k, x)) :
    ∃ cb nx v w', AnsN E M F w b k (do pure (.value (← convert s d (ρ a)))) x cb nx v w' := by
  obtain ⟨y, rfl, hy⟩ := hx.inv1
  cases y <;> simp only [astepNew] at hs <;> first | (cases hs; done) | skip
  rename_i u
  cases u <;> (try simp only at hs) <;> first | (cases hs; done) | skip
  rename_i t
  injection hs with e1
  injection e1 with e1 e2
  subst e1 e2
  rw [hy.c_inv]
  let q : Question := .appendCap t.size 0 e
  let cap := q.cut (w.tape w.drawn q)
  have hcap : t.size ≤ cap := by simp [cap, q, Question.cut]
  let arr : Array Value := t.data.map (fun b => .int .u8 b.toNat) ++ Array.replicate (cap - t.size) (.int .u8 0)
  let w1 : World := { w with drawn := w.drawn + 1, heap := w.heap.push (.cells arr e) }
  have hb1 : w1.heap[w.heap.size]? = some (.cells arr e (0, 0)) := by simp [w1]
  obtain ⟨f1, f2, fz', f3, f4⟩ := freeze_heap hb1 (.inl rfl)
  have hsz : arr.size = cap := by simp [arr]; have : t.data.size = t.size := rfl; omega
  have hrun : (convert s d (.string t)).run E.P w = .ok (.slice (some ⟨w.heap.size, 0, none⟩) t.size cap) (w1.freeze ⟨w.heap.size, arr.size, none⟩ 1) := by
    simp only [convert, Sem.run_bind, run_underlying h1, run_underlying h2, Result.andThen_ok, run_underlying h3, Conv.stringToBytes]
    rw [run_choose]
    rw [if_neg (by simp [Question.forced])]
    simp only [Result.andThen_ok, newRow, Sem.run_bind, run_newObj, Sem.run_pure]
    have := markStringish_run (P := E.P) (w := w1) (b := w.heap.size) (o := 0) hb1
    have e : ({ block := w.heap.size, off := 0, spot := none } : Addr) = ⟨w.heap.size, 0, none⟩ := rfl
    show ((markStringish ⟨w.heap.size, 0, none⟩).run E.P w1).andThen _ = _
    rw [this]
    rfl
  refine ansN (sz := arr.size) (o := .cells arr e fz') H hM hrun ?_ ?_ f3 ?_ ?_ ?_ (fun hle => ?_) ?_
  · rw [f1]; simp [w1]
  · intro i hi
    rw [f2 i (by omega)]
    simp [w1, Array.getElem?_push, Nat.ne_of_lt hi]
  · unfold World.freeze; split <;> rfl
  · unfold World.freeze; split <;> rfl
  · unfold World.freeze; split <;> rfl
  · refine ⟨tcode e, rfl, ?_, f4, fun i x hx => ?_, fun h => tplain e h⟩
    · simp [hsz]; exact hcap
    · simp only [List.getElem?_map, Option.map_eq_some_iff] at hx
      obtain ⟨c, hc, rfl⟩ := hx
      have hi : i < t.data.size := by
        have := (List.getElem?_eq_some_iff.1 hc).1; simpa using this
      refine ⟨.int .u8 c.toNat, ?_, rfl, .c _⟩
      have hc' : t.data[i]? = some c := by simpa using hc
      simp only [arr, Nat.zero_add]
      rw [Array.getElem?_append_left (by simpa using hi)]
      simp [hc']
  · exact .sl (cb := ⟨w.heap.size, 0, arr.size⟩) (by simp [mput]) hcap (fun _ => by simp only; omega) (fun _ => by simp)

/-- Every operation that lays a block. -/
theorem anew_sim0 {o : Oper} {ao : AO} {args : List Operand} (hc : compOp0 E.P o = some (ao, args)) (hcls : ao.cls = .a) {xs : List AV} {x : AV} {k : AB} {b : Nat}
    (H : HRel E.W0 M F w) (hx : LRel M xs (args.map ρ)) (hM : M b = none) (hs : astepNew ao xs b = some (k, x)) : ∃ cb nx v w', AnsN E M F w b k (execOp ρ o) x cb nx v w' := by
  obtain ⟨dst, op, type, pos, after, guard⟩ := o
  cases op
  case alloc e =>
    simp only [compOp0, Option.map_eq_some_iff, Prod.mk.injEq] at hc
    obtain ⟨z, hz, rfl, rfl⟩ := hc
    have hx0 := LRel.inv0 (M := M) (xs := xs) (by simpa using hx)
    subst hx0
    exact alloc_sim H hz hM hs
  case box e a =>
    simp only [compOp0, Option.some.injEq, Prod.mk.injEq] at hc
    obtain ⟨rfl, rfl⟩ := hc
    exact box_sim H hx hM hs
  case buildSlice t n parts =>
    simp only [compOp0] at hc
    split at hc <;> first | (cases hc; done) | skip
    rename_i e hu
    split at hc <;> first | (cases hc; done) | skip
    rename_i s z hn hz
    obtain ⟨hp, hc'⟩ := bif_true hc
    clear hc
    simp only [Bool.and_eq_true] at hp
    obtain ⟨p1, p2⟩ := hp
    injection hc' with h8 h9
    subst h8 h9
    exact mkSl_sim H hu hn hz (Nat.le_of_ble_eq_true p1) (Nat.eq_of_beq_eq_true p2) (by simpa [List.map_map, Function.comp_def] using hx) hM hs
  case makeSlice t l c =>
    simp only [compOp0] at hc
    split at hc <;> first | (cases hc; done) | skip
    rename_i e hu
    split at hc <;> first | (cases hc; done) | skip
    rename_i i z hi hz
    simp only [Option.some.injEq, Prod.mk.injEq] at hc
    obtain ⟨rfl, rfl⟩ := hc
    exact makeSl_sim H hu hi hz hx hM hs
  case makeMap t r =>
    cases r with
    | some r => simp [compOp0] at hc
    | none =>
      simp only [compOp0, Option.some.injEq, Prod.mk.injEq] at hc
      obtain ⟨rfl, rfl⟩ := hc
      have hx0 := LRel.inv0 (M := M) (xs := xs) (by simpa using hx)
      subst hx0
      exact makeMap_sim H hM hs
  case range t a =>
    simp only [compOp0] at hc
    split at hc <;> first | (cases hc; done) | skip
    rename_i hu
    simp only [Option.some.injEq, Prod.mk.injEq] at hc
    obtain ⟨rfl, rfl⟩ := hc
    exact rangeS_sim H hu hx hM hs
  case convert s d a =>
    simp only [compOp0] at hc
    split at hc
    · simp only [Option.some.injEq, Prod.mk.injEq] at hc
      rw [← hc.1] at hcls; cases hcls
    · split at hc <;> first | (cases hc; done) | skip
      simp only [Option.some.injEq, Prod.mk.injEq] at hc
      rw [← hc.1] at hcls; cases hcls
    · rename_i e h1 h2
      split at hc <;> first | (cases hc; done) | skip
      rename_i h3
      simp only [Option.some.injEq, Prod.mk.injEq] at hc
      obtain ⟨rfl, rfl⟩ := hc
      exact s2b_sim H h1 h2 h3 hx hM hs
    · split at hc <;> first | (cases hc; done) | skip
      obtain ⟨_, hc'⟩ := bif_true hc
      injection hc' with h8 h9
      rw [← h8] at hcls; cases hcls
    · simp only [Option.some.injEq, Prod.mk.injEq] at hc
      rw [← hc.1] at hcls; cases hcls
    · cases hc
  case next it b => cases b <;> simp [compOp0] at hc; rw [← hc.1] at hcls; cases hcls
  case slice t a lo hi mx =>
    exfalso
    cases mx with
    | some m => simp [compOp0] at hc
    | none =>
      simp only [compOp0] at hc
      split at hc
      · simp only [Option.some.injEq, Prod.mk.injEq] at hc
        rw [← hc.1] at hcls; cases hcls
      · simp only [Option.map_eq_some_iff, Prod.mk.injEq] at hc
        obtain ⟨_, _, h9, _⟩ := hc; rw [← h9] at hcls; cases hcls
      · cases hc
  case call c =>
    exfalso
    simp only [compOp0] at hc
    split at hc
    · simp only [Option.some.injEq, Prod.mk.injEq] at hc
      rw [← hc.1] at hcls; cases hcls
    · simp only [Option.some.injEq, Prod.mk.injEq] at hc
      rw [← hc.1] at hcls; cases hcls
    · simp only [compCall, Bool.cond_eq_ite] at hc
      iterate 6 (all_goals try split at hc)
      all_goals try (cases hc; done)
      all_goals try (simp only [Option.some.injEq, Prod.mk.injEq] at hc; rw [← hc.1] at hcls; cases hcls; done)
      all_goals try (simp only [Option.map_eq_some_iff, Prod.mk.injEq] at hc; obtain ⟨_, _, h9, _⟩ := hc; rw [← h9] at hcls; cases hcls; done)
      all_goals (simp only [Option.some.injEq, Prod.mk.injEq] at hc; rw [← hc.1] at hcls; revert hcls; split <;> (intro hcls; cases hcls))
  all_goals
    exfalso
    simp only [compOp0, Bool.cond_eq_ite] at hc
    iterate 5 (all_goals try split at hc)
    all_goals try (cases hc; done)
    all_goals try (simp only [Option.some.injEq, Prod.mk.injEq] at hc; rw [← hc.1] at hcls; cases hcls; done)
    all_goals try (simp only [Option.map_eq_some_iff, Prod.mk.injEq] at hc; obtain ⟨_, _, h9, _⟩ := hc; rw [← h9] at hcls; cases hcls; done)
end
end Go.Sx
