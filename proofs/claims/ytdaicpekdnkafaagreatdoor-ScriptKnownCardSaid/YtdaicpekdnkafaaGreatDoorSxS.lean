import Derived.Test.YtdaicpekdnkafaaGreatDoorSxR
namespace Go.Sx
open Go Go.RowKit
section
variable {E : Env} {ρ : Operand → Value} {M : BMap} {h : H} {w : World}

theorem setObj_run {P : Program} {w : World} {r : Nat} {o o' : Obj} (h : w.heap[r]? = some o) (hc : ∀ c e f, o ≠ .cells c e f) :
    (setObj r o').run P w = .ok () { w with heap := w.heap.setIfInBounds r o' } := by
  cases o <;> first | (exact absurd rfl (hc _ _ _)) | (simp [setObj, Sem.run, h])

theorem setObj_heap {w : World} {r : Nat} {o o' : Obj} (h : w.heap[r]? = some o) : ({ w with heap := w.heap.setIfInBounds r o' } : World).heap.size = w.heap.size ∧
    (∀ i, i ≠ r → ({ w with heap := w.heap.setIfInBounds r o' } : World).heap[i]? = w.heap[i]?) ∧ ({ w with heap := w.heap.setIfInBounds r o' } : World).heap[r]? = some o' := by
  refine ⟨by simp, fun i hi => by simp [hi.symm], ?_⟩
  have : r < w.heap.size := (Array.getElem?_eq_some_iff.1 h).1
  simp [this]

theorem bytes_beq (a b : ByteArray) : (a == b) = true ↔ a = b := by
  obtain ⟨x⟩ := a
  obtain ⟨y⟩ := b
  constructor
  · intro h
    have e : x = y := by simpa using (show (x == y) = true from h)
    rw [e]
  · intro h
    cases h
    show (x == x) = true
    simp

theorem keySame_bits {str : Bool} {k a : Value} (h : keySame str k a = some true) : Instr.sameBits 10000 a k = true := by
  cases str <;> cases k <;> cases a <;> simp only [keySame] at h <;> first | (cases h; done) | skip
  · obtain ⟨h1, h2⟩ := bif_true h
    simp at h1 h2
    subst h1 h2
    simp [Instr.sameBits]
  · injection h with h
    have h := (bytes_beq _ _).1 h
    subst h
    simp only [Instr.sameBits]
    exact (bytes_beq _ _).2 rfl

/-- The places of a map's entries. -/
theorem entries_rel {M : BMap} {es : List (Value × AV × Nat)} {arr : Array MapEntry} (h : ∀ (i : Nat) k x n, es[i]? = some (k, x, n) → ∃ e, arr[i]? = some e ∧ e.key = k ∧ e.born = n ∧ VRel M x e.val) :
    ∀ (j : Nat) a x n, es[j]? = some (a, x, n) → ∃ e, arr.toList[j]? = some e ∧ e.key = a ∧ e.born = n ∧ VRel M x e.val :=
  fun j a x n hj => by obtain ⟨e, q⟩ := h j a x n hj; exact ⟨e, by simpa using q⟩

theorem mapUpd_sim (K : HRel E.W0 M h.get w) {t kt e : TypeId} {d : TypeDesc} (hu : E.P.underlying t = some (.map kt e)) (hd : E.P.underlying kt = some d) (hk : keyDesc d = true) {a b c : Operand} {xs : List AV} {x : AV} {h' : H}
    (hx : LRel M xs [ρ a, ρ b, ρ c]) (hs : wstep E (.mapUpd (isStrD d)) xs h = some (x, h')) : AnsW E M h w (do Instr.mapUpdate t (ρ a) (ρ b) (ρ c); pure .skip) x h' := by
  obtain ⟨y, z, u, rfl, hy, hz, hv⟩ := hx.inv3
  cases y <;> simp only [wstep] at hs <;> first | (cases hs; done) | skip
  rename_i m
  cases z <;> (try simp only at hs) <;> first | (cases hs; done) | skip
  rename_i k
  have ek := hz.c_inv
  generalize ρ a = ra at *
  rw [ek]
  cases hpk : plainKey (isStrD d) k with
  | false => rw [hpk] at hs; cases hs
  | true =>
    rw [hpk, cond_true] at hs
    cases hy with
    | mp hM =>
      rename_i cb
      split at hs <;> first | (cases hs; done) | skip
      rename_i es clock hF
      obtain ⟨arr, g1, g2, g3⟩ := K.mapAt hM hF
      have fin : ∀ {o' : Obj} {k' : AB}, (Instr.mapUpdate t (.map (some cb.blk)) k (ρ c)).run E.P w = .ok () { w with heap := w.heap.setIfInBounds cb.blk o' } → BRel M cb k' o' →
          some ((AV.c undef), h.put m k') = some (x, h') → AnsW E M h w (do Instr.mapUpdate t (.map (some cb.blk)) k (ρ c); pure .skip) x h' := by
        intro o' k' hr hb he
        injection he with he; injection he with e1 e2
        subst e1 e2
        obtain ⟨p, q, r⟩ := setObj_heap (o' := o') g1
        exact ⟨.skip, undef, _, M, by simp [hr], rfl, .c _, Step.upd K hM hF rfl p q ⟨o', r, hb⟩ rfl rfl rfl⟩
      cases hf : findA (isStrD d) k es 0 with
      | none => rw [hf] at hs; cases hs
      | some r =>
        rw [hf] at hs
        obtain ⟨r', f1, f2⟩ := find_rel hk (ms := arr.toList) (by simpa using g2) (entries_rel g3) hf
        cases r with
        | none =>
          simp only at f2 hs
          subst f2
          refine fin (o' := .map (arr.push { key := k, val := ρ c, born := clock }) (clock + 1)) ?_ ?_ hs
          · simp only [Instr.mapUpdate, Sem.run_bind, run_underlying hu, Result.andThen_ok, getObj_map g1, checkKey_run hd hk, findKey_run hd f1]
            exact setObj_run g1 (fun _ _ _ h => by cases h)
          · refine ⟨rfl, by simp [g2], fun i k' x' n hi => ?_⟩
            rw [List.getElem?_append] at hi
            split at hi
            · rename_i hlt
              obtain ⟨e, p, q⟩ := g3 i k' x' n hi
              exact ⟨e, by rw [Array.getElem?_push, if_neg (by omega)]; exact p, q⟩
            · rename_i hge
              have : i = es.length := by
                have := (List.getElem?_eq_some_iff.1 hi).1; simp at this; omega
              subst this
              simp at hi
              obtain ⟨rfl, rfl, rfl⟩ := hi
              exact ⟨_, by rw [Array.getElem?_push, if_pos g2.symm], rfl, rfl, hv⟩
        | some pr =>
          obtain ⟨i, vA⟩ := pr
          simp only at f2 hs
          obtain ⟨v, rfl, q1, q2, a', n', q3, q4⟩ := f2
          simp only [Nat.sub_zero] at q3
          rw [q3] at hs
          simp only at hs
          obtain ⟨en, en1, en2, en3, en4⟩ := g3 i a' vA n' q3
          refine fin (o' := .map (arr.modify i fun e => { e with key := k, val := ρ c }) clock) ?_ ?_ hs
          · have hb := keySame_bits q4
            have hkey : (Instr.keyThatStays (((arr[i]?).map (·.key)).getD k) k).run E.P w = .ok k w := by
              simp [en1, Instr.keyThatStays, en2, hb]
            simp only [Instr.mapUpdate, Sem.run_bind, run_underlying hu, Result.andThen_ok, getObj_map g1, checkKey_run hd hk, findKey_run hd f1, hkey]
            exact setObj_run g1 (fun _ _ _ h => by cases h)
          · refine ⟨rfl, by simp [g2], fun j k' x' n hj => ?_⟩
            rw [List.getElem?_set] at hj
            split at hj
            · rename_i hij
              subst hij
              split at hj
              · simp at hj
                obtain ⟨rfl, rfl, rfl⟩ := hj
                exact ⟨{ en with key := k, val := ρ c }, by simp [Array.getElem?_modify, en1], rfl, en3, hv⟩
              · cases hj
            · rename_i hij
              obtain ⟨e, p, q⟩ := g3 j k' x' n hj
              exact ⟨e, by simp [Array.getElem?_modify, hij, p], q⟩

theorem delete_sim (K : HRel E.W0 M h.get w) {t ty kt e : TypeId} {d : TypeDesc} {argTypes : Array TypeId} (ha : argTypes[0]? = some t) (hu : E.P.underlying t = some (.map kt e)) (hd : E.P.underlying kt = some d) (hk : keyDesc d = true) {a b : Operand} {xs : List AV} {x : AV} {h' : H}
    (hx : LRel M xs [ρ a, ρ b]) (hs : wstep E (.delete (isStrD d)) xs h = some (x, h')) : AnsW E M h w (do pure (.value (← Builtin.delete_ argTypes ty #[ρ a, ρ b]))) x h' := by
  obtain ⟨y, z, rfl, hy, hz⟩ := hx.inv2
  cases z <;> (try simp only [wstep] at hs) <;> first | (cases hs; done) | skip
  rename_i k
  have ek := hz.c_inv
  generalize ρ a = ra at *
  rw [ek]
  cases hpk : plainKey (isStrD d) k with
  | false => rw [hpk] at hs; cases hs
  | true =>
    rw [hpk, cond_true] at hs
    cases hy with
    | mp hM =>
      rename_i m cb
      simp only at hs
      split at hs <;> first | (cases hs; done) | skip
      rename_i es clock hF
      obtain ⟨arr, g1, g2, g3⟩ := K.mapAt hM hF
      have fin : ∀ {o' : Obj} {k' : AB}, (Builtin.delete_ argTypes ty #[.map (some cb.blk), k]).run E.P w = .ok (.tuple #[]) { w with heap := w.heap.setIfInBounds cb.blk o' } → BRel M cb k' o' →
          some ((AV.tup []), h.put m k') = some (x, h') → AnsW E M h w (do pure (.value (← Builtin.delete_ argTypes ty #[.map (some cb.blk), k]))) x h' := by
        intro o' k' hr hb he
        injection he with he; injection he with e1 e2
        subst e1 e2
        obtain ⟨p, q, r⟩ := setObj_heap (o' := o') g1
        exact ⟨.value (.tuple #[]), .tuple #[], _, M, by simp [hr], rfl, .tup' LRel.nil, Step.upd K hM hF rfl p q ⟨o', r, hb⟩ rfl rfl rfl⟩
      cases hf : findA (isStrD d) k es 0 with
      | none => rw [hf] at hs; cases hs
      | some r =>
        rw [hf] at hs
        obtain ⟨r', f1, f2⟩ := find_rel hk (ms := arr.toList) (by simpa using g2) (entries_rel g3) hf
        cases r with
        | none =>
          simp only at f2 hs
          subst f2
          refine fin (o' := .map arr clock) ?_ ?_ hs
          · simp only [Builtin.delete_, ha, List.getElem?_toArray, List.getElem?_cons_zero, List.getElem?_cons_succ, Sem.run_bind, run_underlying hu, Result.andThen_ok, getObj_map g1, checkKey_run hd hk, findKey_run hd f1]
            rw [setObj_run g1 (fun _ _ _ h => by cases h)]
            simp
          · exact ⟨rfl, g2, g3⟩
        | some pr =>
          obtain ⟨i, vA⟩ := pr
          simp only at f2 hs
          obtain ⟨v, rfl, q1, q2, a', n', q3, q4⟩ := f2
          simp only [Nat.sub_zero] at q3
          have hil : i < es.length := (List.getElem?_eq_some_iff.1 q3).1
          refine fin (o' := .map (arr.eraseIdxIfInBounds i) clock) ?_ ?_ hs
          · simp only [Builtin.delete_, ha, List.getElem?_toArray, List.getElem?_cons_zero, List.getElem?_cons_succ, Sem.run_bind, run_underlying hu, Result.andThen_ok, getObj_map g1, checkKey_run hd hk, findKey_run hd f1]
            rw [setObj_run g1 (fun _ _ _ h => by cases h)]
            simp
          · have hel : (arr.eraseIdxIfInBounds i).toList = arr.toList.eraseIdx i := by
              simp only [Array.eraseIdxIfInBounds]; rw [dif_pos (by omega)]; simp
            refine ⟨rfl, ?_, fun j k' x' n hj => ?_⟩
            · have := congrArg List.length hel
              simp only [Array.length_toList, List.length_eraseIdx] at this
              rw [this, List.length_eraseIdx, if_pos hil, if_pos (by omega), g2]
            · rw [List.getElem?_eraseIdx] at hj
              have hj' : (arr.eraseIdxIfInBounds i)[j]? = if j < i then arr[j]? else arr[j + 1]? := by
                rw [← Array.getElem?_toList, hel, List.getElem?_eraseIdx]; simp
              rw [hj']
              split at hj
              · rename_i hlt; rw [if_pos hlt]; exact g3 j k' x' n hj
              · rename_i hlt; rw [if_neg hlt]; exact g3 (j + 1) k' x' n hj
    | c =>
      cases ra <;> simp only at hs <;> cases hs
    | _ => cases hs

theorem clear_sim (K : HRel E.W0 M h.get w) {t ty kt e : TypeId} {argTypes : Array TypeId} (ha : argTypes[0]? = some t) (hu : E.P.underlying t = some (.map kt e)) {a : Operand} {xs : List AV} {x : AV} {h' : H}
    (hx : LRel M xs [ρ a]) (hs : wstep E .clearM xs h = some (x, h')) : AnsW E M h w (do pure (.value (← Builtin.clear_ argTypes ty #[ρ a]))) x h' := by
  obtain ⟨y, rfl, hy⟩ := hx.inv1
  cases y <;> simp only [wstep] at hs <;> first | (cases hs; done) | skip
  rename_i m
  generalize ρ a = ra at *
  cases hy with
  | mp hM =>
    rename_i cb
    split at hs <;> first | (cases hs; done) | skip
    rename_i es clock hF
    obtain ⟨arr, g1, g2, g3⟩ := K.mapAt hM hF
    injection hs with hs; injection hs with e1 e2
    subst e1 e2
    obtain ⟨p, q, r⟩ := setObj_heap (o' := .map #[] clock) g1
    refine ⟨.value (.tuple #[]), .tuple #[], _, M, ?_, rfl, .tup' LRel.nil, Step.upd K hM hF rfl p q ⟨_, r, ⟨rfl, rfl, fun i k x n h => by simp at h⟩⟩ rfl rfl rfl⟩
    simp only [Builtin.clear_, ha, List.getElem?_toArray, List.getElem?_cons_zero, Sem.run_bind, run_underlying hu, Result.andThen_ok, getObj_map g1]
    rw [setObj_run g1 (fun _ _ _ h => by cases h)]
    simp

theorem clearS_sim (K : HRel E.W0 M h.get w) {t ty e : TypeId} {n : Nat} {z : List AV} {argTypes : Array TypeId} (ha : argTypes[0]? = some t) (hu : E.P.underlying t = some (.slice e)) (hz : zeroOf E.P e = some z) {a : Operand} {xs : List AV} {x : AV} {h' : H}
    (hx : LRel M xs [ρ a]) (hs : wstep E (.clearS n z) xs h = some (x, h')) : AnsW E M h w (do pure (.value (← Builtin.clear_ argTypes ty #[ρ a]))) x h' := by
  obtain ⟨y, rfl, hy⟩ := hx.inv1
  simp only [wstep] at hs
  split at hs
  · injection hs with hs; injection hs with e1 e2
    subst e1 e2
    generalize ρ a = ra at *
    cases hy
    refine ⟨.value (.tuple #[]), .tuple #[], w, M, ?_, rfl, .tup' LRel.nil, Step.refl K⟩
    simp [Builtin.clear_, ha, run_underlying hu]
  · rename_i b o l s
    split at hs <;> first | (cases hs; done) | skip
    rename_i cs e' hF
    obtain ⟨hp, e1⟩ := bif_true hs
    injection e1 with e1 e2
    subst e1 e2
    simp only [Bool.and_eq_true] at hp
    obtain ⟨⟨⟨p1, p2⟩, p3⟩, p4⟩ := hp
    have p1 := Nat.eq_of_beq_eq_true p1
    have p2 := Nat.le_of_ble_eq_true p2
    have p4 := Nat.eq_of_beq_eq_true p4
    subst p1
    generalize ρ a = ra at *
    cases hy with
    | sl hM hl hs' ho =>
      rename_i cb off cap
      obtain ⟨i, zv, hi, hzv, hzc⟩ := zeroOf_spec hz
      have hzs : zv.cells.size = s := by have := congrArg List.length hzc; simp at this; omega
      have hflat : ((List.replicate l z).flatten).length = l * s := by simp [p4]
      by_cases h0 : l = 0
      · subst h0
        have : splice cs o (List.replicate 0 z).flatten = cs := by simp [splice]
        rw [this]
        obtain ⟨ob, g1, g2⟩ := K.has b cb _ hM hF rfl
        refine ⟨.value (.tuple #[]), .tuple #[], w, M, ?_, rfl, .tup' LRel.nil, Step.upd K hM hF rfl rfl (fun _ _ => rfl) ⟨ob, g1, g2⟩ rfl rfl rfl⟩
        simp [Builtin.clear_, ha, run_underlying hu]
      · have := ho (by omega)
        subst this
        have hr : LRel M (List.replicate l z).flatten (Builtin.zeroCells zv.cells l).toList := by
          rw [Builtin.zeroCells, range_mod]
          exact replicate_rel (by rw [hzc]; exact LRel.consts _) l
        have hleaf : allLeaf (List.replicate l z).flatten = true := by
          unfold allLeaf at p3 ⊢
          rw [List.all_eq_true] at p3 ⊢
          intro y hy
          rw [List.mem_flatten] at hy
          obtain ⟨k, hk, hy⟩ := hy
          rw [List.eq_of_mem_replicate hk] at hy
          exact p3 y hy
        obtain ⟨w', r, st⟩ := storeRow_step K hM hF (by rw [hflat]; exact p2) hr hleaf
        refine ⟨.value (.tuple #[]), .tuple #[], w', M, ?_, rfl, .tup' LRel.nil, st⟩
        cases l with
        | zero => exact absurd rfl h0
        | succ l' => simp [Builtin.clear_, ha, run_underlying hu, run_zeroValue w hi hzv, r]
  · cases hs

theorem getObj_iter {P : Program} {w : World} {r : Nat} {s : ByteArray} {c : Nat} (h : w.heap[r]? = some (.stringIter s c)) : (getObj r).run P w = .ok (.stringIter s c) w := by
  simp [getObj, Sem.run, h]

theorem next_sim (K : HRel E.W0 M h.get w) {ty : TypeId} {a : Operand} {xs : List AV} {x : AV} {h' : H}
    (hx : LRel M xs [ρ a]) (hs : wstep E .nextS xs h = some (x, h')) : AnsW E M h w (do pure (.value (← Instr.next (ρ a) true ty))) x h' := by
  obtain ⟨y, rfl, hy⟩ := hx.inv1
  cases y <;> simp only [wstep] at hs <;> first | (cases hs; done) | skip
  rename_i b o
  cases o with
  | succ o => cases hs
  | zero =>
    simp only at hs
    split at hs <;> first | (cases hs; done) | skip
    rename_i s p hF
    generalize ρ a = ra at *
    cases hy with
    | ptr hM =>
      rename_i cb
      obtain ⟨ob, g1, g2⟩ := K.has b cb _ hM hF rfl
      cases ob <;> simp only [BRel] at g2
      obtain ⟨rfl, rfl, hsh⟩ := g2
      rename_i s p
      rw [hsh]
      cases hlt : p.blt s.size with
      | false =>
        rw [hlt, cond_false] at hs
        injection hs with hs; injection hs with e1 e2
        subst e1 e2
        have : ¬ p < s.size := by intro h; rw [blt_iff.2 h] at hlt; cases hlt
        refine ⟨.value (.tuple #[.bool false]), _, w, M, ?_, rfl, .tup' (LRel.cons (.c _) .nil), Step.refl K⟩
        simp [Instr.next, getObj_iter g1, this]
      | true =>
        rw [hlt, cond_true] at hs
        injection hs with hs; injection hs with e1 e2
        subst e1 e2
        have hlt' := blt_iff.1 hlt
        obtain ⟨q1, q2, q3⟩ := setObj_heap (o' := .stringIter s (p + (Utf8.decode s p).2)) g1
        refine ⟨.value (.tuple #[.bool true, goInt p, .int .i32 (Utf8.decode s p).1]), _, _, M, ?_, rfl, .tup' (LRel.cons (.c _) (LRel.cons (.c _) (LRel.cons (.c _) .nil))),
          Step.upd K hM hF rfl q1 q2 ⟨_, q3, ⟨rfl, rfl, hsh⟩⟩ rfl rfl rfl⟩
        simp [Instr.next, getObj_iter g1, hlt', setObj_run (o' := .stringIter s (p + (Utf8.decode s p).2)) g1 (fun _ _ _ h => by cases h)]

theorem copy_sim (K : HRel E.W0 M h.get w) {t ty e : TypeId} {n : Nat} {argTypes : Array TypeId} (ha : argTypes[0]? = some t) (hu : E.P.underlying t = some (.slice e)) (hn : sizeP E.P e = some n) {a b : Operand} {xs : List AV} {x : AV} {h' : H}
    (hx : LRel M xs [ρ a, ρ b]) (hs : wstep E (.copy n) xs h = some (x, h')) : AnsW E M h w (do pure (.value (← Builtin.copy_ argTypes ty #[ρ a, ρ b]))) x h' := by
  obtain ⟨y, z, rfl, hy, hz⟩ := hx.inv2
  cases y <;> simp only [wstep] at hs <;> first | (cases hs; done) | skip
  rename_i blk o l s'
  cases hstr : isStrA z with
  | true => rw [hstr] at hs; cases hs
  | false =>
    rw [hstr, cond_false] at hs
    cases hr : rdSlice E h.get z n with
    | none => rw [hr] at hs; cases hs
    | some pr =>
      obtain ⟨m, new⟩ := pr
      rw [hr] at hs
      simp only at hs
      split at hs <;> first | (cases hs; done) | skip
      rename_i cs e' hF
      obtain ⟨hp, e1⟩ := bif_true hs
      injection e1 with e1 e2
      subst e1 e2
      simp only [Bool.and_eq_true] at hp
      obtain ⟨⟨⟨p1, p2⟩, p3⟩, p4⟩ := hp
      have p1 := Nat.eq_of_beq_eq_true p1
      have p2 := Nat.le_of_ble_eq_true p2
      have p4 := Nat.eq_of_beq_eq_true p4
      subst p1
      obtain ⟨h1, h2, _, h4⟩ := rdSlice_spec K hz hr
      have hns : ∀ s, ρ b ≠ .string s := by
        intro s e
        rw [e] at hz
        cases hz
        simp [isStrA] at hstr
      obtain ⟨arr, q1, q2⟩ := h4 hns (min m l) (by omega)
      generalize ρ a = ra at *
      cases hy with
      | sl hM hl hs' ho =>
        rename_i cb off cap
        have hwrite : ∃ w', (storeCells ⟨cb.blk, off, none⟩ arr.toList).run E.P w = .ok () w' ∧ Step E.W0 M h w M (h.put blk (.cells (splice cs o (new.take (min m l * s'))) e')) w' := by
          by_cases h0 : (new.take (min m l * s')).length = 0
          · have e0 : new.take (min m l * s') = [] := List.eq_nil_of_length_eq_zero h0
            rw [e0] at q2 ⊢
            rw [q2.nil_inv]
            have : splice cs o [] = cs := by simp [splice]
            rw [this]
            obtain ⟨ob, g1, g2⟩ := K.has blk cb _ hM hF rfl
            exact ⟨w, by simp [storeCells], Step.upd K hM hF rfl rfl (fun _ _ => rfl) ⟨ob, g1, g2⟩ rfl rfl rfl⟩
          · have hl0 : 0 < l := by
              rcases Nat.eq_zero_or_pos l with h | h
              · subst h; simp at h0
              · exact h
            have := ho (by omega)
            subst this
            exact storeRow_step K hM hF (by rw [p4]; exact p2) q2 p3
        obtain ⟨w', r1, r2⟩ := hwrite
        refine ⟨.value (goInt (min m l : Nat)), _, w', M, ?_, rfl, .c _, r2⟩
        have q1' : (Builtin.firstCells s' (Nat.min m l) (ρ b)).run E.P w = .ok arr w := q1
        simp only [Builtin.copy_, ha, List.getElem?_toArray, List.getElem?_cons_zero, List.getElem?_cons_succ, Sem.run_bind, run_underlying hu, Result.andThen_ok, h1, run_sizeOf' w hn, q1', r1, Sem.run_pure]
end
end Go.Sx
