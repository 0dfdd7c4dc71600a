import Derived.Test.YtdaicpekdnkafaaGreatDoorSxI
namespace Go.Sx
open Go Go.RowKit
section
variable {E : Env} {ρ : Operand → Value} {M : BMap} {F : Nat → Option AB} {w : World}

theorem cell_block {w : World} {a : Addr} {v : Value} (h : w.cell? a = some v) : a.block < w.heap.size := by
  unfold World.cell? at h
  by_cases hb : a.block < w.heap.size
  · exact hb
  · rw [Array.getElem?_eq_none (by omega)] at h; cases h

theorem HRel.oldCell (H : HRel E.W0 M F w) {a : Addr} {v : Value} (h : E.W0.cell? a = some v) : w.cell? a = some v := by
  rw [H.old.cell (cell_block h)]; exact h

theorem oldCells_spec {w : World} {a : Addr} : ∀ {n i : Nat} {vs : List Value}, oldCells w a i n = some vs → vs.length = n ∧ ∀ (j : Nat) v, vs[j]? = some v → w.cell? (a.add (i + j)) = some v := by
  intro n
  induction n with
  | zero => intro i vs h; simp [oldCells] at h; subst h; simp
  | succ n ih =>
    intro i vs h
    simp only [oldCells] at h
    cases hv : w.cell? (a.add i) with
    | none => simp [hv] at h
    | some v =>
      cases hr : oldCells w a (i + 1) n with
      | none => simp [hv, hr] at h
      | some r =>
        simp [hv, hr] at h; subst h
        obtain ⟨p, q⟩ := ih hr
        refine ⟨by simp [p], fun j u hj => ?_⟩
        cases j with
        | zero => simp at hj; subst hj; simpa using hv
        | succ j => have := q j u (by simpa using hj); rwa [show i + (j + 1) = i + 1 + j by omega]

/-- What stands in the model's memory for a living block of cells. -/
theorem HRel.cellsAt (H : HRel E.W0 M F w) {b : Nat} {cb : CB} {l : List AV} {e : TypeId} (hM : M b = some cb) (hF : F b = some (.cells l e)) :
    ∃ arr fz, w.heap[cb.blk]? = some (.cells arr (e / 2) fz) ∧ arr.size = cb.size ∧ cb.sh + l.length ≤ arr.size ∧ (fz.1 = fz.2 ∨ arr.size ≤ fz.1) ∧
      ∀ (i : Nat) x, l[i]? = some x → ∃ v, arr[cb.sh + i]? = some v ∧ v.oneCell' = true ∧ VRel M x v := by
  obtain ⟨o, ho, hr⟩ := H.has b cb _ hM hF rfl
  cases o <;> simp only [BRel] at hr
  obtain ⟨rfl, h1, h2, h3, h4, _⟩ := hr
  exact ⟨_, _, ho, h1, h2, h3, h4⟩

/-- The same, with what is known of a block that is a variable. -/
theorem HRel.exactAt (H : HRel E.W0 M F w) {b : Nat} {cb : CB} {l : List AV} {e : TypeId} (hM : M b = some cb) (hF : F b = some (.cells l e)) :
    ∀ arr e' fz, w.heap[cb.blk]? = some (.cells arr e' fz) → (e % 2 = 1 → cb.sh = 0 ∧ arr.size = l.length) := by
  obtain ⟨o, ho, hr⟩ := H.has b cb _ hM hF rfl
  cases o <;> simp only [BRel] at hr
  obtain ⟨rfl, h1, h2, h3, h4, h5⟩ := hr
  intro arr e' fz h
  rw [ho] at h
  injection h with h
  injection h with h
  subst h
  exact h5

theorem cell_of {w : World} {b : Nat} {arr : Array Value} {e : TypeId} {fz : Nat × Nat} (h : w.heap[b]? = some (.cells arr e fz)) (o : Nat) : w.cell? ⟨b, o, none⟩ = arr[o]? := by
  simp [World.cell?, h]

theorem HRel.mapAt (H : HRel E.W0 M F w) {b : Nat} {cb : CB} {es : List (Value × AV × Nat)} {clock : Nat} (hM : M b = some cb) (hF : F b = some (.map es clock)) :
    ∃ arr, w.heap[cb.blk]? = some (.map arr clock) ∧ arr.size = es.length ∧
      ∀ (i : Nat) k x n, es[i]? = some (k, x, n) → ∃ e, arr[i]? = some e ∧ e.key = k ∧ e.born = n ∧ VRel M x e.val := by
  obtain ⟨o, ho, hr⟩ := H.has b cb _ hM hF rfl
  cases o <;> simp only [BRel] at hr
  obtain ⟨rfl, h1, h2⟩ := hr
  exact ⟨_, ho, h1, h2⟩

/-- A row of cells of a living block, as the model reads it. -/
theorem HRel.row (H : HRel E.W0 M F w) {b o n : Nat} {cb : CB} {l r : List AV} {e : TypeId} (hM : M b = some cb) (hF : F b = some (.cells l e)) (hc : cut l o n = some r) :
    ∃ vs : List Value, vs.length = n ∧ (∀ (j : Nat) v, vs[j]? = some v → w.cell? (Addr.add ⟨cb.blk, cb.sh + o, none⟩ j) = some v) ∧ LRel M r vs := by
  obtain ⟨arr, fz, h1, h2, h3, h4, h5⟩ := H.cellsAt hM hF
  obtain ⟨rfl, hl⟩ := cut_spec hc
  simp only [List.length_take, List.length_drop] at hl
  have hn : n = 0 ∨ o + n ≤ l.length := by omega
  refine ⟨(arr.toList.drop (cb.sh + o)).take n, ?_, ?_, ?_⟩
  · simp; omega
  · intro j v hj
    rw [addr_add_ptr, cell_of h1]
    simp only [List.getElem?_take, List.getElem?_drop] at hj
    split at hj
    · rw [← Nat.add_assoc]; simpa using hj
    · cases hj
  · refine ⟨by simp; omega, fun j x v hx hv => ?_⟩
    simp only [List.getElem?_take, List.getElem?_drop] at hx hv
    split at hx
    · rename_i hj
      rw [if_pos hj] at hv
      obtain ⟨v', p, _, q⟩ := h5 _ _ hx
      rw [show cb.sh + (o + j) = cb.sh + o + j by omega] at p
      have : v' = v := by have h' : arr[cb.sh + o + j]? = some v := by simpa using hv
                          rw [p] at h'; simpa using h'
      subst this; exact q
    · cases hx

theorem rdCells_spec (H : HRel E.W0 M F w) {x : AV} {v : Value} {n : Nat} {l : List AV} (hx : VRel M x v) (hr : rdCells E F x n = some l) :
    ∃ (a : Addr) (vs : List Value), v = .pointer (some a) ∧ vs.length = n ∧ (∀ (j : Nat) u, vs[j]? = some u → w.cell? (a.add j) = some u) ∧ LRel M l vs := by
  cases hx with
  | ptr h =>
    simp only [rdCells] at hr
    split at hr <;> first | (cases hr; done) | skip
    rename_i hF
    obtain ⟨vs, a, b, c⟩ := H.row h hF hr
    exact ⟨_, vs, rfl, a, b, c⟩
  | c =>
    cases v <;> simp only [rdCells] at hr <;> first | (cases hr; done) | skip
    rename_i p
    cases p <;> simp only at hr <;> first | (cases hr; done) | skip
    rename_i a
    simp only [Option.map_eq_some_iff] at hr
    obtain ⟨vs, hv, rfl⟩ := hr
    obtain ⟨p, q⟩ := oldCells_spec (E.oldOk _ _ _ hv)
    exact ⟨a, vs, rfl, p, fun j u hj => H.oldCell (by simpa using q j u hj), LRel.consts vs⟩
  | _ => simp [rdCells] at hr

theorem load_sim (H : HRel E.W0 M F w) {t : TypeId} {d : TypeDesc} {n : Nat} (hd : E.P.underlying t = some d) (hn : sizeP E.P t = some n) {x y : AV} {v : Value}
    (hx : VRel M x v) (hs : lstep E (.load (isAggD d) n) [x] F = some y) : ∃ u, (Instr.loadAt t v).run E.P w = .ok u w ∧ VRel M y u := by
  simp only [lstep] at hs
  cases hr : rdCells E F x n with
  | none => rw [hr] at hs; cases hs
  | some l =>
    rw [hr] at hs
    obtain ⟨a, vs, rfl, h1, h2, h3⟩ := rdCells_spec H hx hr
    cases hagg : isAggD d with
    | true =>
      rw [hagg] at hs
      simp only [cond_true, Option.some.injEq] at hs
      subst hs
      refine ⟨.agg vs.toArray, ?_, .agg' (by simpa using h3)⟩
      have := run_loadCells_list (P := E.P) w a vs h2
      rw [h1] at this
      simp [Instr.loadAt, Instr.sureAddr, loadVar, run_isAgg' w hd, hagg, run_sizeOf' w hn, this]
    | false =>
      rw [hagg] at hs
      simp only [cond_false] at hs
      split at hs <;> first | (cases hs; done) | skip
      rename_i y'
      injection hs with hs; subst hs
      obtain ⟨u, us, rfl, hu, _⟩ := h3.cons_inv
      refine ⟨u, ?_, hu⟩
      have hc : w.cell? a = some u := by simpa [Addr.add] using h2 0 u rfl
      simp [Instr.loadAt, Instr.sureAddr, loadVar, run_isAgg' w hd, hagg, hc]
end
end Go.Sx
