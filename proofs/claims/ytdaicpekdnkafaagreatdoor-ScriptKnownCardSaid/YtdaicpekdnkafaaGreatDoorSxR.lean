import Derived.Test.YtdaicpekdnkafaaGreatDoorSxQ
namespace Go.Sx
open Go Go.RowKit
section
variable {E : Env} {ρ : Operand → Value} {M : BMap} {h : H} {w : World}

theorem get_push_fun (h : H) (k : AB) : (h.push k).get = fput h.get h.len k := by
  funext i; exact Sx.H.get_push h k i
theorem get_len (h : H) : h.get h.len = none := by
  cases e : h.get h.len with
  | none => rfl
  | some k => have := Sx.H.get_lt e; omega

/-- A new block behind an operation that lays one. -/
theorem Step.push {w0 : World} {k : AB} {cb : CB} {w' : World} (hle : MLe M (mput M h.len cb)) (K' : HRel w0 (mput M h.len cb) (fput h.get h.len k) w') (hf : Fram M h.get w w')
    (ho : ∀ i, Own (mput M h.len cb) (fput h.get h.len k) i → Own M h.get i ∨ w.heap.size ≤ i) : Step w0 M h w (mput M h.len cb) (h.push k) w' := by
  refine ⟨by simp, hle, ?_, by rw [get_push_fun]; exact K', hf, ?_, by rw [get_push_fun]; exact ho⟩
  · intro b h0 h1
    by_cases e : b = h.len
    · subst e; simp
    · simp only [mput, if_neg e] at h1; exact absurd h0 h1
  · intro b hb _
    rw [get_push_fun]; simp only [fput]; rw [if_neg (by omega)]

/-- One block goes, a new one comes, in its place or behind all. -/
theorem Step.turn {w0 : World} (K : HRel w0 M h.get w) {b : Nat} {cb cb' : CB} {k k' : AB} (hM : M b = some cb) (hF : h.get b = some k) (hk : k.isDead = false) (hN : M h.len = none) {w' : World}
    (hsize : w.heap.size ≤ w'.heap.size) (hsame : ∀ i, i < w.heap.size → i ≠ cb.blk → w'.heap[i]? = w.heap[i]?) (hcb : cb'.blk = cb.blk ∨ cb'.blk = w.heap.size) (hlt : cb'.blk < w'.heap.size)
    (ho : MLe M (mput M h.len cb') → ∃ o, w'.heap[cb'.blk]? = some o ∧ BRel (mput M h.len cb') cb' k' o) (h1 : w'.os = w.os) (h2 : w'.tape = w.tape) (h3 : w'.output = w.output) :
    Step w0 M h w (mput M h.len cb') ((h.put b .dead).push k') w' := by
  have hb : b < h.len := Sx.H.get_lt hF
  have hle : MLe M (mput M h.len cb') := by
    intro i c m
    by_cases e : i = h.len
    · subst e; rw [hN] at m; cases m
    · simp only [mput, if_neg e]; exact m
  have hget : ((h.put b .dead).push k').get = fun i => if i = h.len then some k' else if i = b then some .dead else h.get i := by
    funext i
    rw [Sx.H.get_push]
    show (if i = h.len then some k' else (h.put b .dead).get i) = _
    by_cases e : i = h.len
    · rw [if_pos e, if_pos e]
    · rw [if_neg e, if_neg e]; exact Sx.H.get_put h b .dead i hb
  have cases3 : ∀ {c : Nat} {cc : CB} {j : AB}, mput M h.len cb' c = some cc → (if c = h.len then some k' else if c = b then some .dead else h.get c) = some j → j.isDead = false →
      (c = h.len ∧ cc = cb' ∧ j = k') ∨ (c ≠ h.len ∧ c ≠ b ∧ M c = some cc ∧ h.get c = some j) := by
    intro c cc j m f d
    by_cases e : c = h.len
    · left
      simp only [mput, if_pos e] at m f
      injection m with m; injection f with f
      exact ⟨e, m.symm, f.symm⟩
    · right
      simp only [mput, if_neg e] at m f
      by_cases e2 : c = b
      · rw [if_pos e2] at f; injection f with f; subst f; cases d
      · rw [if_neg e2] at f; exact ⟨e, e2, m, f⟩
  have hbnd := K.bnd b cb hM
  refine ⟨by simp, hle, ?_, ?_, ⟨hsize, ?_⟩, ?_, ?_⟩
  · intro c h0 h1
    by_cases e : c = h.len
    · subst e; simp
    · simp only [mput, if_neg e] at h1; exact absurd h0 h1
  · rw [hget]
    refine ⟨?_, ?_, ?_, ?_⟩
    · intro c cc j m f d
      rcases cases3 m f d with ⟨rfl, rfl, rfl⟩ | ⟨e1, e2, m, f⟩
      · exact ho hle
      · have hne : cc.blk ≠ cb.blk := fun x => e2 (K.inj c b cc cb j k m f d hM hF hk x)
        rw [hsame _ (K.bnd c cc m).2 hne]
        obtain ⟨o, p, q⟩ := K.has c cc j m f d
        exact ⟨o, p, q.mono hle⟩
    · intro c1 c2 d1 d2 j1 j2 m1 f1 x1 m2 f2 x2 he
      rcases cases3 m1 f1 x1 with ⟨rfl, rfl, rfl⟩ | ⟨a1, a2, n1, g1⟩
      · rcases cases3 m2 f2 x2 with ⟨rfl, rfl, rfl⟩ | ⟨b1, b2, m2, f2⟩
        · rfl
        · exfalso
          rcases hcb with z | z
          · exact b2 (K.inj c2 b d2 cb j2 k m2 f2 x2 hM hF hk (by rw [← he, z]))
          · have := (K.bnd c2 d2 m2).2; omega
      · rcases cases3 m2 f2 x2 with ⟨rfl, rfl, rfl⟩ | ⟨b1, b2, n2, g2⟩
        · exfalso
          rcases hcb with z | z
          · exact a2 (K.inj c1 b d1 cb j1 k n1 g1 x1 hM hF hk (by rw [he, z]))
          · have := (K.bnd c1 d1 n1).2; omega
        · exact K.inj _ _ _ _ _ _ n1 g1 x1 n2 g2 x2 he
    · intro c cc m
      by_cases e : c = h.len
      · simp only [mput, if_pos e] at m
        injection m with m; subst m
        have := K.old.size
        rcases hcb with z | z <;> omega
      · simp only [mput, if_neg e] at m
        have := K.bnd c cc m; omega
    · exact ⟨h1.trans K.old.os, h2.trans K.old.tape, h3.trans K.old.output, by have := K.old.size; omega, fun i hi => by rw [hsame i (by have := K.old.size; omega) (by omega)]; exact K.old.block i hi⟩
  · intro i hi hn
    exact hsame i hi (fun e => hn ⟨b, cb, k, hM, hF, hk, e.symm⟩)
  · intro c hc hm
    rw [hget]; simp only
    rw [if_neg (by omega), if_neg (by intro e; subst e; rw [hM] at hm; cases hm)]
  · rintro i ⟨c, cc, j, m, f, d, rfl⟩
    rw [hget] at f
    rcases cases3 m f d with ⟨rfl, rfl, rfl⟩ | ⟨e1, e2, m, f⟩
    · rcases hcb with x | x
      · left; exact ⟨b, cb, k, hM, hF, hk, x.symm⟩
      · right; omega
    · left; exact ⟨c, cc, j, m, f, d, rfl⟩

/-- The cells of a new row: what was, what comes, what is left over. -/
theorem brel_row {l : List AV} {old arr rest : Array Value} {e : TypeId} {cb : CB} (hsh : cb.sh = 0) (hsz : cb.size = (old ++ arr ++ rest).size) (hr : LRel M l (old.toList ++ arr.toList)) (hleaf : allLeaf l = true) :
    BRel M cb (.cells l (2 * e)) (.cells (old ++ arr ++ rest) e (0, 0)) := by
  have hl : l.length = old.size + arr.size := by have := hr.1; simp at this; omega
  refine ⟨tcode e, hsz.symm, by simp; omega, .inl rfl, fun i x hx => ?_, fun h => tplain e h⟩
  obtain ⟨v, hv, hxv⟩ := hr.get hx
  have hi : i < l.length := (List.getElem?_eq_some_iff.1 hx).1
  refine ⟨v, ?_, leaf_one (List.all_eq_true.1 hleaf x (List.mem_of_getElem? hx)) hxv, hxv⟩
  rw [hsh, Nat.zero_add, Array.getElem?_append_left (by simp; omega)]
  have : (old ++ arr)[i]? = (old.toList ++ arr.toList)[i]? := by rw [← Array.getElem?_toList, Array.toList_append]
  rw [this]; exact hv

theorem zeroCells_size (zv : Array Value) (n : Nat) : (Builtin.zeroCells zv n).size = n * zv.size := by simp [Builtin.zeroCells]

/-- The heart of an append. -/
theorem append_core (K : HRel E.W0 M h.get w) {e : TypeId} {i : TypeInfo} {zv : Value} (hzs : zv.cells.size = i.size) {sA x : AV} {s : Value} {new : List AV} {n : Nat} {arr : Array Value} {h' : H} {A : Sem Value}
    (hs : appendTo e i.size i.bytes sA n new h = some (x, h')) (hsv : VRel M sA s) (hfr : Fresh M h.len h'.len) (hnew : LRel M new arr.toList) (hn0 : n = 0 → arr = #[])
    (hin : ∀ base l cap w', s = .slice base l cap → l + n ≤ cap → storedBy E.P base (l * i.size) arr.toList w w' → A.run E.P w = .ok (.slice base (l + n) cap) w')
    (hout : ∀ base l cap old, s = .slice base l cap → ¬ l + n ≤ cap → (2 * (l + n) + 1000) * i.bytes ≤ 2 ^ 48 → (∀ d : Nat, (Builtin.firstCells i.size l s).run E.P { w with drawn := d } = .ok old { w with drawn := d }) →
      ∃ c, l + n ≤ c ∧ A.run E.P w = .ok (.slice (some ⟨w.heap.size, 0, none⟩) (l + n) c) { w with drawn := w.drawn + 1, heap := w.heap.push (.cells (old ++ arr ++ Builtin.zeroCells zv.cells (c - (l + n))) e) }) :
    AnsW E M h w (do pure (.value (← A))) x h' := by
  have fin : ∀ {v w' M'}, A.run E.P w = .ok v w' → VRel M' x v → Step E.W0 M h w M' h' w' → AnsW E M h w (do pure (.value (← A))) x h' :=
    fun {v w' M'} a b c => ⟨.value v, v, w', M', by simp [a], rfl, b, c⟩
  cases hsv with
  | c =>
    cases s <;> simp only [appendTo] at hs <;> first | (cases hs; done) | skip
    rename_i p l cap
    cases p with
    | some a => simp at hs
    | none =>
    cases l with
    | succ l => simp at hs
    | zero =>
    cases cap with
    | succ c => simp at hs
    | zero =>
      simp only at hs
      cases hb : n.beq 0 with
      | true =>
        rw [hb, cond_true] at hs
        injection hs with hs; injection hs with e1 e2
        have hn := Nat.eq_of_beq_eq_true hb
        subst e1 e2 hn
        exact fin (hin none 0 0 w rfl (by omega) rfl) (.c _) (Step.refl K)
      | false =>
        rw [hb, cond_false] at hs
        have hn : n ≠ 0 := by intro e; subst e; simp at hb
        obtain ⟨hp, e1⟩ := bif_true hs
        injection e1 with e1 e2
        subst e1 e2
        simp only [Bool.and_eq_true, decide_eq_true_eq] at hp
        obtain ⟨⟨p1, p2⟩, p3⟩ := hp
        have p3 := Nat.eq_of_beq_eq_true p3
        obtain ⟨c, hc, hrun⟩ := hout none 0 0 #[] rfl (by omega) (by simpa using p1) (fun d => by simp [Builtin.firstCells])
        have hN : M h.len = none := hfr h.len (Nat.le_refl _) (by simp)
        let O : Array Value := #[] ++ arr ++ Builtin.zeroCells zv.cells (c - (0 + n))
        obtain ⟨q1, q2, q3⟩ := drewPush_heap w (.cells O e)
        have hasz : arr.size = n * i.size := by have := hnew.1; simp at this; omega
        have hO : O.size = c * i.size := by
          simp only [O, Array.size_append, zeroCells_size, hzs, hasz]
          simp only [List.size_toArray, List.length_nil, Nat.zero_add, ← Nat.add_mul]
          congr 1; omega
        have hle : MLe M (mput M h.len ⟨w.heap.size, 0, O.size⟩) := by
          intro j cb m
          by_cases e : j = h.len
          · subst e; rw [hN] at m; cases m
          · simp only [mput, if_neg e]; exact m
        have hbr : BRel (mput M h.len ⟨w.heap.size, 0, O.size⟩) ⟨w.heap.size, 0, O.size⟩ (.cells new (2 * e)) (.cells O e (0, 0)) :=
          brel_row rfl rfl (by simpa using hnew.mono hle) p2
        obtain ⟨a1, a2, a3, a4⟩ := K.add (b := h.len) (sz := O.size) (k := .cells new (2 * e)) hN q1 q2 q3 rfl rfl rfl (fun _ => hbr)
        refine fin hrun ?_ (Step.push a1 a2 a3 a4)
        simp only [Nat.zero_add]
        refine .sl (cb := ⟨w.heap.size, 0, O.size⟩) (by simp [mput]) (by omega) (fun _ => ?_) (fun _ => by simp)
        simp only [Nat.zero_add, hO, Nat.le_refl]
  | sl hM hl hs' ho =>
    rename_i b o l s' cb off cap
    simp only [appendTo] at hs
    split at hs <;> first | (cases hs; done) | skip
    rename_i cs e' hF
    cases hb : n.beq 0 with
    | true =>
      rw [hb, cond_true] at hs
      injection hs with hs; injection hs with e1 e2
      have hn := Nat.eq_of_beq_eq_true hb
      subst e1 e2 hn
      have := hn0 rfl
      subst this
      exact fin (hin (some _) l cap w rfl (by omega) (by simp [storedBy, storeCells])) (.sl hM hl hs' ho) (Step.refl K)
    | false =>
      rw [hb, cond_false] at hs
      have hn : n ≠ 0 := by intro e; subst e; simp at hb
      obtain ⟨hp, e1⟩ := bif_true hs
      injection e1 with e1 e2
      subst e1 e2
      simp only [Bool.and_eq_true, decide_eq_true_eq] at hp
      obtain ⟨⟨⟨⟨⟨p1, p2⟩, p3⟩, p4⟩, p5⟩, p6⟩ := hp
      have p1 := Nat.eq_of_beq_eq_true p1
      have p3 := Nat.eq_of_beq_eq_true p3
      have p6 := Nat.eq_of_beq_eq_true p6
      subst p1 p2
      have hN : M h.len = none := hfr h.len (Nat.le_refl _) (by simp)
      obtain ⟨ar, fz, g1, g2, g3, g4, g5⟩ := K.cellsAt hM hF
      have hasz : arr.size = n * i.size := by have := hnew.1; simp at this; omega
      have hnl : new.length = n * i.size := p6
      have hleafcs : ∀ (j : Nat) y, (cs.drop o)[j]? = some y → ∃ v, ar[cb.sh + o + j]? = some v ∧ v.oneCell' = true ∧ VRel M y v := by
        intro j y hy
        rw [List.getElem?_drop] at hy
        have := g5 _ _ hy
        rwa [show cb.sh + (o + j) = cb.sh + o + j by omega] at this
      by_cases hroom : l + n ≤ cap
      · have hcap : cap ≠ 0 := by omega
        have hoff := ho hcap
        have hend := hs' hcap
        subst hoff
        have hmul : (l + n) * i.size ≤ cap * i.size := Nat.mul_le_mul_right _ hroom
        have hadd : (l + n) * i.size = l * i.size + n * i.size := Nat.add_mul ..
        have hone : ∀ v ∈ arr.toList, v.oneCell' = true := by
          intro v hv
          obtain ⟨j, hj⟩ := List.getElem?_of_mem hv
          have hjl : j < new.length := by have := (List.getElem?_eq_some_iff.1 hj).1; rw [hnew.1] at this; exact this
          have hx := List.getElem?_eq_getElem hjl
          exact leaf_one (List.all_eq_true.1 p5 _ (List.getElem_mem hjl)) (hnew.2 j _ v hx hj)
        obtain ⟨w', ar', r1, r2, r3, r4, r5, r6, r7, r8⟩ := run_storeRow (P := E.P) (b := cb.blk) (o := cb.sh + (o + l * i.size)) arr.toList 0 ar w g1 (by simp; omega) g4 hone
        have hrun := hin (some ⟨cb.blk, cb.sh + o, none⟩) l cap w' rfl hroom (by simp only [storedBy]; rw [addr_add_ptr]; exact r1)
        have hsz : ar'.size = ar.size := by
          have := congrArg List.length r5
          simp at this; omega
        have hcbz : cb.size = ar'.size := by omega
        refine fin hrun ?_ (Step.turn (w' := w') (cb' := ⟨cb.blk, cb.sh + o, cb.size⟩) K hM hF rfl hN (by omega) (fun j hj hne => r3 j hne) (.inl rfl) (by show cb.blk < w'.heap.size; have := (K.bnd b cb hM).2; omega) (fun hle => ⟨_, r4, rfl, hcbz.symm, ?_, by rw [hsz]; exact g4, ?_, fun h => tplain e h⟩) r6 r7 r8)
        · refine .sl (cb := ⟨cb.blk, cb.sh + o, cb.size⟩) (by simp [mput]) hroom (fun _ => hend) (fun _ => by simp)
        · simp; omega
        · intro j y hy
          have hcell : ar'[cb.sh + o + j]? = (ar.toList.take (cb.sh + (o + l * i.size) + 0) ++ arr.toList ++ ar.toList.drop (cb.sh + (o + l * i.size) + 0 + arr.toList.length))[cb.sh + o + j]? := by rw [← r5]; simp
          by_cases hj : j < (cs.drop o).length
          · rw [List.getElem?_append_left hj] at hy
            obtain ⟨v, q1, q2, q3⟩ := hleafcs j y hy
            have hj' := hj
            simp at hj'
            refine ⟨v, ?_, q2, q3.mono hle⟩
            show ar'[cb.sh + o + j]? = some v
            rw [hcell, List.append_assoc, List.getElem?_append_left (by simp; omega), List.getElem?_take, if_pos (by omega)]
            simpa using q1
          · rw [List.getElem?_append_right (by omega)] at hy
            obtain ⟨v, q1, q2⟩ := hnew.get hy
            have hjl : j - (cs.drop o).length < new.length := (List.getElem?_eq_some_iff.1 hy).1
            simp only [List.length_drop] at hj hjl q1
            refine ⟨v, ?_, leaf_one (List.all_eq_true.1 p5 y (List.mem_of_getElem? hy)) q2, q2.mono hle⟩
            show ar'[cb.sh + o + j]? = some v
            rw [hcell, List.append_assoc, List.getElem?_append_right (by simp; omega), List.getElem?_append_left (by simp; omega)]
            rw [← q1]; congr 1; simp; omega
      · have hold : ∃ old : Array Value, (∀ d : Nat, (Builtin.firstCells i.size l (.slice (some ⟨cb.blk, off, none⟩) l cap)).run E.P { w with drawn := d } = .ok old { w with drawn := d }) ∧ old.toList.length = l * i.size ∧ LRel M (cs.drop o) old.toList := by
          by_cases hl0 : l = 0
          · subst hl0
            refine ⟨#[], fun d => by simp [Builtin.firstCells, loadCells, loadCellsFrom], by simp, ?_⟩
            have : cs.drop o = [] := by apply List.eq_nil_of_length_eq_zero; simp; omega
            rw [this]; exact LRel.nil
          · have hcap : cap ≠ 0 := by omega
            have hoff := ho hcap
            subst hoff
            have hc : cut cs o (l * i.size) = some ((cs.drop o).take (l * i.size)) := by
              simp only [cut]
              rw [show ((cs.drop o).take (l * i.size)).length.beq (l * i.size) = true by simp; omega]
              rfl
            have htk : (cs.drop o).take (l * i.size) = cs.drop o := List.take_of_length_le (by simp; omega)
            obtain ⟨vs, v1, v2, v3⟩ := K.row hM hF hc
            rw [htk] at v3
            refine ⟨vs.toArray, fun d => ?_, by simpa using v1, by simpa using v3⟩
            have := run_loadCells_list (P := E.P) { w with drawn := d } ⟨cb.blk, cb.sh + o, none⟩ vs (fun j u hj => by
              have := v2 j u hj
              simp only [World.cell?]
              simpa only [World.cell?] using this)
            rw [v1] at this
            simpa [Builtin.firstCells] using this
        obtain ⟨old, o1, o2, o3⟩ := hold
        obtain ⟨c, hc, hrun⟩ := hout (some ⟨cb.blk, off, none⟩) l cap old rfl hroom p4 o1
        let O : Array Value := old ++ arr ++ Builtin.zeroCells zv.cells (c - (l + n))
        obtain ⟨q1, q2, q3⟩ := drewPush_heap w (.cells O e)
        have hO : O.size = c * i.size := by
          simp only [O, Array.size_append, zeroCells_size, hzs, hasz]
          have : old.size = l * i.size := by simpa using o2
          rw [this, ← Nat.add_mul, ← Nat.add_mul]
          congr 1; omega
        refine fin hrun ?_ (Step.turn (w' := { w with drawn := w.drawn + 1, heap := w.heap.push (.cells O e) }) (cb' := ⟨w.heap.size, 0, O.size⟩) K hM hF rfl hN (by rw [q1]; omega) (fun j hj _ => q2 j hj) (.inr rfl) (by show w.heap.size < _; rw [q1]; omega) (fun hle => ⟨_, q3, ?_⟩) rfl rfl rfl)
        · refine .sl (cb := ⟨w.heap.size, 0, O.size⟩) (by simp [mput]) (by omega) (fun _ => ?_) (fun _ => by simp)
          simp only [Nat.zero_add, hO, Nat.le_refl]
        · refine brel_row rfl rfl ((o3.append hnew).mono hle) ?_
          unfold allLeaf at p5 ⊢
          rw [List.all_append, Bool.and_eq_true]
          refine ⟨?_, p5⟩
          rw [List.all_eq_true]
          intro y hy
          obtain ⟨j, hj⟩ := List.getElem?_of_mem hy
          obtain ⟨v, z1, z2, z3⟩ := hleafcs j y hj
          cases z3 <;> simp_all [AV.leaf, Value.oneCell']
  | _ => simp [appendTo] at hs
end
end Go.Sx
