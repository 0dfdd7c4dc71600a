import Derived.Test.YtdaicpekdnkafaaGreatDoorSxO
namespace Go.Sx
open Go Go.RowKit
section
variable {E : Env} {ρ : Operand → Value} {M : BMap} {h : H} {w : World}

/-- From a memory to the next, the abstract one's and the model's together. -/
structure Step (w0 : World) (M : BMap) (h : H) (w : World) (M' : BMap) (h' : H) (w' : World) : Prop where
  len : h.len ≤ h'.len
  le : MLe M M'
  new : ∀ b, M b = none → M' b ≠ none → h.len ≤ b ∧ b < h'.len
  rel : HRel w0 M' h'.get w'
  fram : Fram M h.get w w'
  ghost : ∀ b, b < h.len → M b = none → h'.get b = h.get b
  own : ∀ i, Own M' h'.get i → Own M h.get i ∨ w.heap.size ≤ i

def Fresh (M : BMap) (n m : Nat) : Prop := ∀ b, n ≤ b → b < m → M b = none

theorem Step.refl {w0 : World} (K : HRel w0 M h.get w) : Step w0 M h w M h w :=
  ⟨Nat.le_refl _, MLe.refl _, fun _ a c => absurd a c, K, Fram.refl _ _ _, fun _ _ _ => rfl, fun _ a => .inl a⟩

theorem Step.trans {w0 : World} {M1 M2 : BMap} {h1 h2 : H} {w1 w2 : World} (a : Step w0 M h w M1 h1 w1) (b : Step w0 M1 h1 w1 M2 h2 w2) : Step w0 M h w M2 h2 w2 := by
  refine ⟨Nat.le_trans a.len b.len, a.le.trans b.le, ?_, b.rel, ⟨Nat.le_trans a.fram.size b.fram.size, ?_⟩, ?_, ?_⟩
  · intro c h0 h2
    by_cases h1 : M1 c = none
    · have := b.new c h1 h2; have := a.len; omega
    · have := a.new c h0 h1; have := b.len; omega
  · intro i hi hn
    rw [b.fram.keep i (by have := a.fram.size; omega) (fun ho => by
      rcases a.own i ho with x | x
      · exact hn x
      · omega)]
    exact a.fram.keep i hi hn
  · intro c hc hm
    have h1 : M1 c = none := by
      cases e : M1 c with
      | none => rfl
      | some cb => have := (a.new c hm (by rw [e]; simp)).1; omega
    rw [b.ghost c (by have := a.len; omega) h1, a.ghost c hc hm]
  · intro i ho
    rcases b.own i ho with x | x
    · exact a.own i x
    · right; have := a.fram.size; omega

/-- What an operation that writes leaves behind. -/
def AnsW (E : Env) (M : BMap) (h : H) (w : World) (s : Sem Next) (x : AV) (h' : H) : Prop :=
  ∃ nx v w' M', s.run E.P w = .ok nx w' ∧ nval nx = some v ∧ VRel M' x v ∧ Step E.W0 M h w M' h' w'

/-- One block written. -/
theorem Step.upd {w0 : World} (K : HRel w0 M h.get w) {b : Nat} {cb : CB} {k k' : AB} (hM : M b = some cb) (hF : h.get b = some k) (hk : k.isDead = false) {w' : World}
    (hsize : w'.heap.size = w.heap.size) (hsame : ∀ i, i ≠ cb.blk → w'.heap[i]? = w.heap[i]?) (ho : ∃ o, w'.heap[cb.blk]? = some o ∧ BRel M cb k' o)
    (h1 : w'.os = w.os) (h2 : w'.tape = w.tape) (h3 : w'.output = w.output) : Step w0 M h w M (h.put b k') w' := by
  obtain ⟨p, q⟩ := K.upd (k' := k') hM hF hk hsize hsame ho h1 h2 h3
  have hb : b < h.len := Sx.H.get_lt hF
  have e : (h.put b k').get = fun i => if i = b then some k' else h.get i := by
    funext i; exact Sx.H.get_put h b k' i hb
  refine ⟨Nat.le_refl _, MLe.refl _, fun c a d => absurd a d, by rw [e]; exact p, q, ?_, ?_⟩
  · intro c _ hm
    rw [e]
    simp only
    rw [if_neg (by intro x; subst x; rw [hM] at hm; cases hm)]
  · rintro i ⟨c, cc, j, m, f, dj, rfl⟩
    left
    rw [e] at f
    simp only at f
    by_cases x : c = b
    · subst x
      exact ⟨c, cc, k, m, hF, hk, rfl⟩
    · rw [if_neg x] at f
      exact ⟨c, cc, j, m, f, dj, rfl⟩

theorem run_storeRow {P : Program} {b o : Nat} {e : TypeId} {fz : Nat × Nat} : ∀ (vs : List Value) (i : Nat) (arr : Array Value) (w : World), w.heap[b]? = some (.cells arr e fz) → o + i + vs.length ≤ arr.size →
    (fz.1 = fz.2 ∨ arr.size ≤ fz.1) → (∀ v ∈ vs, v.oneCell' = true) → ∃ w' arr', (storeCells ⟨b, o, none⟩ vs i).run P w = .ok () w' ∧ w'.heap.size = w.heap.size ∧ (∀ j, j ≠ b → w'.heap[j]? = w.heap[j]?) ∧
      w'.heap[b]? = some (.cells arr' e fz) ∧ arr'.toList = arr.toList.take (o + i) ++ vs ++ arr.toList.drop (o + i + vs.length) ∧ w'.os = w.os ∧ w'.tape = w.tape ∧ w'.output = w.output := by
  intro vs
  induction vs with
  | nil =>
    intro i arr w hb hl hf hv
    exact ⟨w, arr, by simp [storeCells], rfl, fun _ _ => rfl, hb, by simp, rfl, rfl, rfl⟩
  | cons v vs ih =>
    intro i arr w hb hl hf hv
    simp only [List.length_cons] at hl
    have hc : w.cell? ⟨b, o + i, none⟩ = some arr[o + i] := by rw [cell_of hb]; simp
    have hfz : w.frozen? ⟨b, o + i, none⟩ = false := by
      simp only [World.frozen?, hb]
      simp
      rcases hf with h | h <;> omega
    have hadd : (⟨b, o, none⟩ : Addr).add i = ⟨b, o + i, none⟩ := by unfold Addr.add; split <;> simp_all
    have hstore : (store ((⟨b, o, none⟩ : Addr).add i) v).run P w = .ok () (w.setCell ⟨b, o + i, none⟩ v) := by
      rw [hadd, run_store P w _ v .plain (hv v (by simp)), hc]
      simp [hfz]
    have hb' : (w.setCell ⟨b, o + i, none⟩ v).heap[b]? = some (.cells (arr.setIfInBounds (o + i) v) e fz) := by
      simp [World.setCell, Array.getElem?_modify, hb]
    obtain ⟨w', arr', r1, r2, r3, r4, r5, r6, r7, r8⟩ := ih (i + 1) _ (w.setCell ⟨b, o + i, none⟩ v) hb' (by simp; omega) (by simpa using hf) (fun u hu => hv u (by simp [hu]))
    refine ⟨w', arr', ?_, ?_, ?_, r4, ?_, r6, r7, r8⟩
    · simp only [storeCells, Sem.run_bind, hstore, Result.andThen_ok, r1]
    · rw [r2]; simp [World.setCell]
    · intro j hj
      rw [r3 j hj]
      simp [World.setCell, Array.getElem?_modify, hj.symm]
    · rw [r5]
      apply List.ext_getElem?
      intro j
      have : o + i < arr.toList.length := by simp; omega
      simp only [Array.toList_setIfInBounds, List.append_assoc, List.getElem?_append, List.getElem?_take, List.length_take, List.getElem?_drop, List.length_set, List.cons_append]
      grind

/-- A row of cells of a living block is written. -/
theorem storeRow_step (K : HRel E.W0 M h.get w) {b k : Nat} {cb : CB} {l new : List AV} {e : TypeId} {vs : List Value} (hM : M b = some cb) (hF : h.get b = some (.cells l e)) (hle : k + new.length ≤ l.length)
    (hr : LRel M new vs) (hleaf : allLeaf new = true) : ∃ w', (storeCells ⟨cb.blk, cb.sh + k, none⟩ vs).run E.P w = .ok () w' ∧ Step E.W0 M h w M (h.put b (.cells (splice l k new) e)) w' := by
  obtain ⟨arr, fz, g1, g2, g3, g4, g5⟩ := K.cellsAt hM hF
  have hone : ∀ v ∈ vs, v.oneCell' = true := by
    intro v hv
    obtain ⟨i, hi⟩ := List.getElem?_of_mem hv
    have hil : i < new.length := by have := (List.getElem?_eq_some_iff.1 hi).1; rw [hr.1] at this; exact this
    have hx := List.getElem?_eq_getElem hil
    exact leaf_one (List.all_eq_true.1 hleaf _ (List.getElem_mem hil)) (hr.2 i _ v hx hi)
  have hvl := hr.1
  obtain ⟨w', arr', r1, r2, r3, r4, r5, r6, r7, r8⟩ := run_storeRow (P := E.P) (b := cb.blk) (o := cb.sh + k) vs 0 arr w g1 (by omega) g4 hone
  have hsz : arr'.size = arr.size := by
    have := congrArg List.length r5
    simp at this; omega
  refine ⟨w', r1, Step.upd (k' := .cells (splice l k new) e) K hM hF rfl r2 r3 ⟨_, r4, rfl, by omega, ?_, ?_, ?_, ?_⟩ r6 r7 r8⟩
  · unfold splice; simp; omega
  · rw [hsz]; exact g4
  · intro i x hx
    have hcell : arr'[cb.sh + i]? = (arr.toList.take (cb.sh + k + 0) ++ vs ++ arr.toList.drop (cb.sh + k + 0 + vs.length))[cb.sh + i]? := by rw [← r5]; simp
    unfold splice at hx
    simp only [List.append_assoc, List.getElem?_append, List.length_take] at hx
    split at hx
    · rename_i h1
      rw [List.getElem?_take, if_pos (by omega)] at hx
      obtain ⟨v, p, q, r⟩ := g5 i x hx
      refine ⟨v, ?_, q, r⟩
      rw [hcell, List.append_assoc, List.getElem?_append_left (by simp; omega), List.getElem?_take, if_pos (by omega)]
      simpa using p
    · rename_i h1
      split at hx
      · rename_i h2
        obtain ⟨v, p, q⟩ := hr.get hx
        refine ⟨v, ?_, leaf_one (List.all_eq_true.1 hleaf x (List.mem_of_getElem? hx)) q, q⟩
        rw [hcell, List.append_assoc, List.getElem?_append_right (by simp; omega), List.getElem?_append_left (by simp; omega)]
        rw [← p]; congr 1; simp; omega
      · rename_i h2
        rw [List.getElem?_drop] at hx
        have hi : k + new.length + (i - min k l.length - new.length) = i := by omega
        rw [hi] at hx
        obtain ⟨v, p, q, r⟩ := g5 i x hx
        refine ⟨v, ?_, q, r⟩
        rw [hcell, List.append_assoc, List.getElem?_append_right (by simp; omega), List.getElem?_append_right (by simp; omega), List.getElem?_drop]
        have p' : arr.toList[cb.sh + i]? = some v := by simpa using p
        rw [← p']; congr 1; simp; omega
  · intro he
    obtain ⟨x1, x2⟩ := K.exactAt hM hF _ _ _ g1 he
    exact ⟨x1, by unfold splice; simp; omega⟩

theorem store_sim (K : HRel E.W0 M h.get w) {t : TypeId} {n : Nat} (hn : sizeP E.P t = some n) {a c : Operand} {xs : List AV} {x : AV} {h' : H} (hx : LRel M xs [ρ a, ρ c]) (hs : wstep E (.store n) xs h = some (x, h')) :
    AnsW E M h w (do Instr.storeAt t (ρ a) (ρ c); pure .skip) x h' := by
  obtain ⟨y, z, rfl, hy, hz⟩ := hx.inv2
  cases y <;> simp only [wstep] at hs <;> first | (cases hs; done) | skip
  rename_i b k
  split at hs <;> first | (cases hs; done) | skip
  rename_i l e hF
  obtain ⟨hp, e1⟩ := bif_true hs
  injection e1 with e1 e2
  subst e1 e2
  simp only [Bool.and_eq_true] at hp
  obtain ⟨⟨p1, p2⟩, p3⟩ := hp
  have p1 := Nat.eq_of_beq_eq_true p1
  have p2 := Nat.le_of_ble_eq_true p2
  generalize ρ a = ra at *
  cases hy with
  | ptr hM =>
    rename_i cb
    have hc := hz.cells
    obtain ⟨w', r, s⟩ := storeRow_step K hM hF (by rw [p1]; exact p2) hc p3
    refine ⟨.skip, undef, w', M, ?_, rfl, .c _, s⟩
    have hsz : (ρ c).cells.size = n := by have := hc.1; simp at this; omega
    simp [Instr.storeAt, Instr.sureAddr, storeVar, run_sizeOf' w hn, hsz, r]
end
end Go.Sx
