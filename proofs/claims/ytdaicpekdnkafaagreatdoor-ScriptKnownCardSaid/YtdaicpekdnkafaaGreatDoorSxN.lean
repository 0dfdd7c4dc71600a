import Derived.Test.YtdaicpekdnkafaaGreatDoorSxM
namespace Go.Sx
open Go Go.RowKit
section
variable {E : Env} {ρ : Operand → Value} {M : BMap} {F : Nat → Option AB} {w : World}

def mput (M : BMap) (b : Nat) (cb : CB) : BMap := fun i => if i = b then some cb else M i
def fput (F : Nat → Option AB) (b : Nat) (k : AB) : Nat → Option AB := fun i => if i = b then some k else F i

/-- What an operation that lays one block leaves behind. -/
structure AnsN (E : Env) (M : BMap) (F : Nat → Option AB) (w : World) (b : Nat) (k : AB) (s : Sem Next) (x : AV) (cb : CB) (nx : Next) (v : Value) (w' : World) : Prop where
  run : s.run E.P w = .ok nx w'
  nv : nval nx = some v
  val : VRel (mput M b cb) x v
  le : MLe M (mput M b cb)
  rel : HRel E.W0 (mput M b cb) (fput F b k) w'
  fram : Fram M F w w'
  own : ∀ i, Own (mput M b cb) (fput F b k) i → Own M F i ∨ w.heap.size ≤ i
  fresh : w.heap.size ≤ cb.blk

theorem ansN {s : Sem Value} {b sz : Nat} {k : AB} {x : AV} {v : Value} {o : Obj} {w' : World} (H : HRel E.W0 M F w) (hM : M b = none) (hrun : s.run E.P w = .ok v w')
    (hsize : w'.heap.size = w.heap.size + 1) (hsame : ∀ i, i < w.heap.size → w'.heap[i]? = w.heap[i]?) (ho : w'.heap[w.heap.size]? = some o) (h1 : w'.os = w.os) (h2 : w'.tape = w.tape) (h3 : w'.output = w.output)
    (hk : MLe M (mput M b ⟨w.heap.size, 0, sz⟩) → BRel (mput M b ⟨w.heap.size, 0, sz⟩) ⟨w.heap.size, 0, sz⟩ k o) (hv : VRel (mput M b ⟨w.heap.size, 0, sz⟩) x v) :
    ∃ cb nx v w', AnsN E M F w b k (do pure (.value (← s))) x cb nx v w' := by
  have hle : MLe M (mput M b ⟨w.heap.size, 0, sz⟩) := by
    intro i cb m
    by_cases e : i = b
    · subst e; rw [hM] at m; cases m
    · simp only [mput, if_neg e]; exact m
  obtain ⟨_, p, q, r⟩ := H.add (b := b) (sz := sz) (k := k) hM hsize hsame ho h1 h2 h3 (fun _ => hk hle)
  exact ⟨⟨w.heap.size, 0, sz⟩, .value v, v, w', by simp [hrun], rfl, hv, hle, p, q, r, Nat.le_refl _⟩

theorem push_heap (w : World) (o : Obj) : ({ w with heap := w.heap.push o } : World).heap.size = w.heap.size + 1 ∧ (∀ i, i < w.heap.size → ({ w with heap := w.heap.push o } : World).heap[i]? = w.heap[i]?) ∧
    ({ w with heap := w.heap.push o } : World).heap[w.heap.size]? = some o := by
  refine ⟨by simp, fun i hi => ?_, ?_⟩
  · simp [Array.getElem?_push, Nat.ne_of_lt hi]
  · simp

/-- Cells that are related, and each one cell, make a block. -/
theorem brel_cells {M : BMap} {l : List AV} {arr : Array Value} {e : TypeId} {blk : Nat} (hr : LRel M l (arr.toList.take l.length)) (hl : l.length ≤ arr.size) (hleaf : allLeaf l = true) :
    BRel M ⟨blk, 0, arr.size⟩ (.cells l (2 * e)) (.cells arr e (0, 0)) := by
  refine ⟨tcode e, rfl, by simpa using hl, .inl rfl, fun i x hx => ?_, fun h => tplain e h⟩
  obtain ⟨v, hv, hxv⟩ := hr.get hx
  have hi : i < l.length := by
    by_cases h : i < l.length
    · exact h
    · rw [List.getElem?_eq_none (by omega)] at hx; cases hx
  rw [List.getElem?_take, if_pos hi] at hv
  refine ⟨v, by simpa using hv, ?_, hxv⟩
  have : x.leaf = true := List.all_eq_true.1 hleaf x (List.mem_of_getElem? hx)
  exact leaf_one this hxv

theorem brel_var {M : BMap} {l : List AV} {arr : Array Value} {e : TypeId} {blk : Nat} (hr : LRel M l arr.toList) (hleaf : allLeaf l = true) :
    BRel M ⟨blk, 0, arr.size⟩ (.cells l (2 * e + 1)) (.cells arr e (0, 0)) := by
  have hl : arr.size = l.length := by simpa using hr.1
  have hb : BRel M ⟨blk, 0, arr.size⟩ (.cells l (2 * e)) (.cells arr e (0, 0)) := brel_cells (by rw [List.take_of_length_le (by simp [hl])]; exact hr) (by omega) hleaf
  obtain ⟨_, _, c, d, f, _⟩ := hb
  exact ⟨tcode' e, rfl, c, d, f, fun _ => ⟨rfl, hl⟩⟩

theorem replicate_rel {M : BMap} {z : List AV} {zs : List Value} (h : LRel M z zs) : ∀ n, LRel M (List.replicate n z).flatten (List.replicate n zs).flatten := by
  intro n
  induction n with
  | zero => simpa using LRel.nil
  | succ n ih => simpa [List.replicate_succ] using h.append ih

theorem range_mod (z : Array Value) (n : Nat) : ((Array.range (n * z.size)).map (fun i => z[i % z.size]!)).toList = (List.replicate n z.toList).flatten := by
  induction n with
  | zero => simp
  | succ n ih =>
    rw [List.replicate_succ', List.flatten_append, ← ih]
    simp only [Array.toList_map, Array.toList_range, List.flatten_cons, List.flatten_nil, List.append_nil]
    rw [Nat.succ_mul, List.range_add, List.map_append]
    congr 1
    apply List.ext_getElem?
    intro i
    simp only [List.map_map, List.getElem?_map]
    by_cases hi : i < z.size
    · rw [List.getElem?_range hi]
      simp only [Option.map_some, Function.comp]
      rw [Nat.mul_comm, Nat.mul_add_mod, Nat.mod_eq_of_lt hi]
      simp [hi]
    · rw [List.getElem?_eq_none (by simpa using hi), List.getElem?_eq_none (by simpa using hi)]; rfl

theorem alloc_sim (H : HRel E.W0 M F w) {e : TypeId} {z : List AV} (hz : zeroOf E.P e = some z) {b : Nat} (hM : M b = none) {k : AB} {x : AV} (hs : astepNew (.alloc z e) [] b = some (k, x)) :
    ∃ cb nx v w', AnsN E M F w b k (do pure (.value (← Instr.alloc e true (.tuple #[])))) x cb nx v w' := by
  simp only [astepNew] at hs
  obtain ⟨hleaf, e1⟩ := bif_true hs
  injection e1 with e1 e2
  subst e1 e2
  obtain ⟨i, zv, hi, hzv, rfl⟩ := zeroOf_spec hz
  obtain ⟨p, q, r⟩ := push_heap w (.cells zv.cells e)
  refine ansN (sz := zv.cells.size) (o := .cells zv.cells e) (v := .pointer (some ⟨w.heap.size, 0, none⟩)) H hM ?_ p q r rfl rfl rfl (fun hle => ?_) ?_
  · simp [Instr.alloc, run_zeroValue w hi hzv, newVar, newRow]
  · exact brel_var (LRel.consts zv.cells.toList) hleaf
  · exact .ptr (cb := ⟨w.heap.size, 0, zv.cells.size⟩) (o := 0) (by simp [mput])

theorem box_sim (H : HRel E.W0 M F w) {e : TypeId} {a : Operand} {xs : List AV} (hx : LRel M xs [ρ a]) {b : Nat} (hM : M b = none) {k : AB} {x : AV} (hs : astepNew (.box e) xs b = some (k, x)) :
    ∃ cb nx v w', AnsN E M F w b k (do pure (.value (← Instr.box e (ρ a)))) x cb nx v w' := by
  obtain ⟨y, rfl, hy⟩ := hx.inv1
  simp only [astepNew] at hs
  obtain ⟨hleaf, e1⟩ := bif_true hs
  injection e1 with e1 e2
  subst e1 e2
  obtain ⟨p, q, r⟩ := push_heap w (.cells (ρ a).cells e)
  refine ansN (sz := (ρ a).cells.size) (o := .cells (ρ a).cells e) (v := .pointer (some ⟨w.heap.size, 0, none⟩)) H hM ?_ p q r rfl rfl rfl (fun hle => ?_) ?_
  · simp [Instr.box, newVar, newRow]
  · have hc := (hy.mono hle).cells
    have hl : y.cells.length = (ρ a).cells.size := by have := hc.1; simp at this; omega
    exact brel_cells (by rw [List.take_of_length_le (by simp [hl])]; exact hc) (by omega) hleaf
  · exact .ptr (cb := ⟨w.heap.size, 0, (ρ a).cells.size⟩) (o := 0) (by simp [mput])

theorem makeMap_sim (H : HRel E.W0 M F w) {t : TypeId} {b : Nat} (hM : M b = none) {k : AB} {x : AV} (hs : astepNew .makeMap [] b = some (k, x)) :
    ∃ cb nx v w', AnsN E M F w b k (do pure (.value (← Instr.makeMap t none))) x cb nx v w' := by
  simp only [astepNew] at hs
  injection hs with e1
  injection e1 with e1 e2
  subst e1 e2
  obtain ⟨p, q, r⟩ := push_heap w (.map #[] 0)
  refine ansN (sz := 0) (o := .map #[] 0) (v := .map (some w.heap.size)) H hM ?_ p q r rfl rfl rfl (fun hle => ?_) ?_
  · simp [Instr.makeMap]
  · exact ⟨rfl, rfl, fun i k x n h => by simp at h⟩
  · exact .mp (cb := ⟨w.heap.size, 0, 0⟩) (by simp [mput])

theorem rangeS_sim (H : HRel E.W0 M F w) {t : TypeId} (hu : E.P.underlying t = some .string) {a : Operand} {xs : List AV} (hx : LRel M xs [ρ a]) {b : Nat} (hM : M b = none) {k : AB} {x : AV}
    (hs : astepNew .rangeS xs b = some (k, x)) : ∃ cb nx v w', AnsN E M F w b k (do pure (.value (← Instr.range t (ρ a)))) x cb nx v w' := by
  obtain ⟨y, rfl, hy⟩ := hx.inv1
  cases y <;> simp only [astepNew] at hs <;> first | (cases hs; done) | skip
  rename_i u
  cases u <;> simp only at hs <;> first | (cases hs; done) | skip
  rename_i s
  injection hs with e1
  injection e1 with e1 e2
  subst e1 e2
  obtain ⟨p, q, r⟩ := push_heap w (.stringIter s 0)
  refine ansN (sz := 0) (o := .stringIter s 0) (v := .pointer (some ⟨w.heap.size, 0, none⟩)) H hM ?_ p q r rfl rfl rfl (fun hle => ?_) ?_
  · rw [hy.c_inv]; simp [Instr.range, run_underlying hu]
  · exact ⟨rfl, rfl, rfl⟩
  · exact .ptr (cb := ⟨w.heap.size, 0, 0⟩) (o := 0) (by simp [mput])

theorem mkSl_sim (H : HRel E.W0 M F w) {t e : TypeId} {s n : Nat} {z : List AV} (hu : E.P.underlying t = some (.slice e)) (hn : sizeP E.P e = some s) (hz : zeroOf E.P e = some z) (hle : n * s ≤ 2 ^ 24) (hzl : z.length = s)
    {parts : Array (Nat × Operand)} {xs : List AV} (hx : LRel M xs (parts.toList.map fun p => ρ p.2)) {b : Nat} (hM : M b = none) {k : AB} {x : AV}
    (hs : astepNew (.mkSl e s n ((List.replicate n z).flatten) (parts.toList.map fun p => (p.1 * s, s))) xs b = some (k, x)) :
    ∃ cb nx v w', AnsN E M F w b k (do pure (.value (← Instr.buildSlice t n (parts.map fun (i, x) => (i, ρ x))))) x cb nx v w' := by
  simp only [astepNew] at hs
  cases hf : fillA ((List.replicate n z).flatten) (parts.toList.map fun p => (p.1 * s, s)) xs with
  | none => rw [hf] at hs; cases hs
  | some cs =>
    rw [hf] at hs
    obtain ⟨hleaf, e1⟩ := bif_true hs
    injection e1 with e1 e2
    subst e1 e2
    simp only [Bool.and_eq_true] at hleaf
    obtain ⟨hleaf, hlen⟩ := hleaf
    have hlen := Nat.eq_of_beq_eq_true hlen
    obtain ⟨i, zv, hi, hzv, hzc⟩ := zeroOf_spec hz
    have hzs : zv.cells.size = s := by rw [← hzl, hzc]; simp
    have hmap : (parts.map fun (i, x) => (i, ρ x)).toList = parts.toList.map fun p => (p.1, ρ p.2) := by simp
    obtain ⟨arr, h1, h2⟩ := fill_sim (M := M) (places := fun i => some (i * s, s)) (parts.toList.map fun p => (p.1, ρ p.2)) (ps := parts.toList.map fun p => (p.1 * s, s)) (xs := xs)
      (cells := (List.replicate n z).flatten) (arr := (Array.range (n * s)).map (fun i => zv.cells[i % zv.cells.size]!))
      (by rw [← hzs, range_mod, hzc]; exact replicate_rel (LRel.consts _) n) (by simpa [List.map_map, Function.comp_def] using hx) (by simp) (fun i p q h h' => by
        simp only [List.getElem?_map, Option.map_eq_some_iff] at h h'
        obtain ⟨q', hq', rfl⟩ := h'
        obtain ⟨q'', hq'', rfl⟩ := h
        rw [hq'] at hq''; injection hq'' with e; subst e; rfl) hf
    rw [← hmap] at h1
    have hsz : arr.size = cs.length := by have := h2.1; simpa using this
    obtain ⟨p, q, r⟩ := push_heap w (.cells arr e)
    refine ansN (sz := arr.size) (o := .cells arr e) (v := .slice (some ⟨w.heap.size, 0, none⟩) n n) H hM ?_ p q r rfl rfl rfl (fun hle => ?_) ?_
    · have hgt : ¬ n * s > 2 ^ 24 := by omega
      simp only [Instr.buildSlice, Sem.run_bind, run_underlying hu, Result.andThen_ok, run_sizeOf' w hn, Sem.run_ite, if_neg hgt, Sem.run_pure]
      generalize n * s = m at h1 ⊢
      cases m with
      | zero =>
        have e0 : ∀ f : Nat → Value, (Array.range 0).map f = #[] := fun f => by simp
        rw [e0] at h1
        simp only [if_true, e0, h1]
        simp [newRow]
      | succ m =>
        simp only [Nat.succ_ne_zero, if_false, Sem.run_bind, run_zeroValue w hi hzv, Result.andThen_ok, Sem.run_pure, h1]
        simp [newRow]
    · exact brel_cells (by rw [List.take_of_length_le (by simp [hsz])]; exact h2.mono hle) (by omega) hleaf
    · exact .sl (cb := ⟨w.heap.size, 0, arr.size⟩) (by simp [mput]) (Nat.le_refl _) (fun _ => by simp only; omega) (fun _ => by simp)
end
end Go.Sx
