/- The abstract values and memory of a deterministic reading of Go's code, and how they stand to the model's. -/
import Derived.Calls
import Derived.Orders
import Derived.Below
import Derived.Laws.Cells
namespace Go.Sx
open Go Go.RowKit

/-- Where an abstract block lies in memory: the block, the first cell, how many cells the block has. -/
structure CB where
  blk : Nat
  sh : Nat
  size : Nat

abbrev BMap := Nat → Option CB

inductive AV where
  | c (v : Value)
  | ptr (b o : Nat)
  | sl (b o l sz : Nat)
  | mp (b : Nat)
  | iface (t : TypeId) (v : AV)
  | agg (l : List AV)
  | tup (l : List AV)
  | fn (f : Fn) (first caps : List AV)

instance : Inhabited AV := ⟨.c undef⟩

/-- In 'cells l e': e is twice the type of the elements; one more if the block is just as it was laid: the variable that 'l' are the cells of. -/
inductive AB where
  | cells (l : List AV) (e : TypeId)
  | map (es : List (Value × AV × Nat)) (clock : Nat)
  | siter (s : ByteArray) (p : Nat)
  | miter (m : Option Nat) (since : Nat) (seen : List Nat) (last : Nat)
  | dead

def AB.isDead : AB → Bool
  | .dead => true
  | _ => false

inductive VRel (M : BMap) : AV → Value → Prop
  | c (v : Value) : VRel M (.c v) v
  | ptr {b o : Nat} {cb : CB} (h : M b = some cb) : VRel M (.ptr b o) (.pointer (some ⟨cb.blk, cb.sh + o, none⟩))
  | sl {b o l sz : Nat} {cb : CB} {off cap : Nat} (h : M b = some cb) (hl : l ≤ cap) (hs : cap ≠ 0 → off + cap * sz ≤ cb.size) (ho : cap ≠ 0 → off = cb.sh + o) :
      VRel M (.sl b o l sz) (.slice (some ⟨cb.blk, off, none⟩) l cap)
  | mp {b : Nat} {cb : CB} (h : M b = some cb) : VRel M (.mp b) (.map (some cb.blk))
  | iface {t : TypeId} {x : AV} {v : Value} (h : VRel M x v) : VRel M (.iface t x) (.iface t v)
  | agg {l : List AV} {vs : Array Value} (hn : vs.size = l.length) (h : ∀ (i : Nat) x v, l[i]? = some x → vs[i]? = some v → VRel M x v) : VRel M (.agg l) (.agg vs)
  | tup {l : List AV} {vs : Array Value} (hn : vs.size = l.length) (h : ∀ (i : Nat) x v, l[i]? = some x → vs[i]? = some v → VRel M x v) : VRel M (.tup l) (.tuple vs)
  | fn {f : Fn} {l k : List AV} {vs us : Array Value} (hn : vs.size = l.length) (h : ∀ (i : Nat) x v, l[i]? = some x → vs[i]? = some v → VRel M x v)
      (hn' : us.size = k.length) (h' : ∀ (i : Nat) x v, k[i]? = some x → us[i]? = some v → VRel M x v) : VRel M (.fn f l k) (.func f vs us)

/-- Rows of values, one by one. -/
def LRel (M : BMap) (l : List AV) (vs : List Value) : Prop := vs.length = l.length ∧ ∀ (i : Nat) x v, l[i]? = some x → vs[i]? = some v → VRel M x v

/-- M' knows all that M knows. -/
def MLe (M M' : BMap) : Prop := ∀ b cb, M b = some cb → M' b = some cb

theorem MLe.refl (M : BMap) : MLe M M := fun _ _ h => h
theorem MLe.trans {A B C : BMap} (h : MLe A B) (k : MLe B C) : MLe A C := fun _ _ x => k _ _ (h _ _ x)

theorem VRel.mono {M M' : BMap} (hM : MLe M M') {x : AV} {v : Value} (h : VRel M x v) : VRel M' x v := by
  induction h with
  | c v => exact .c v
  | ptr h => exact .ptr (hM _ _ h)
  | sl h a b c => exact .sl (hM _ _ h) a b c
  | mp h => exact .mp (hM _ _ h)
  | iface _ ih => exact .iface ih
  | agg hn _ ih => exact .agg hn ih
  | tup hn _ ih => exact .tup hn ih
  | fn hn _ hn' _ ih ih' => exact .fn hn ih hn' ih'

theorem LRel.mono {M M' : BMap} (hM : MLe M M') {l : List AV} {vs : List Value} (h : LRel M l vs) : LRel M' l vs :=
  ⟨h.1, fun i x v a b => (h.2 i x v a b).mono hM⟩
theorem LRel.nil {M : BMap} : LRel M [] [] := ⟨rfl, fun i x v h => by simp at h⟩
theorem LRel.cons {M : BMap} {x : AV} {v : Value} {l : List AV} {vs : List Value} (h : VRel M x v) (t : LRel M l vs) : LRel M (x :: l) (v :: vs) := by
  refine ⟨by simp [t.1], fun i y u hy hu => ?_⟩
  cases i with
  | zero => simp at hy hu; subst hy hu; exact h
  | succ i => exact t.2 i y u (by simpa using hy) (by simpa using hu)
theorem LRel.cons_inv {M : BMap} {x : AV} {l : List AV} {vs : List Value} (h : LRel M (x :: l) vs) : ∃ v us, vs = v :: us ∧ VRel M x v ∧ LRel M l us := by
  cases vs with
  | nil => simp [LRel] at h
  | cons v us =>
    refine ⟨v, us, rfl, h.2 0 x v rfl rfl, by simpa using h.1, fun i y u hy hu => h.2 (i + 1) y u (by simpa using hy) (by simpa using hu)⟩
theorem LRel.nil_inv {M : BMap} {vs : List Value} (h : LRel M [] vs) : vs = [] := by
  have := h.1; simpa using this
theorem LRel.append {M : BMap} {l k : List AV} {vs us : List Value} (h : LRel M l vs) (t : LRel M k us) : LRel M (l ++ k) (vs ++ us) := by
  refine ⟨by simp [h.1, t.1], fun i y u hy hu => ?_⟩
  by_cases hi : i < l.length
  · rw [List.getElem?_append_left hi] at hy
    rw [List.getElem?_append_left (by rw [h.1]; exact hi)] at hu
    exact h.2 i y u hy hu
  · rw [List.getElem?_append_right (by omega)] at hy
    rw [List.getElem?_append_right (by rw [h.1]; omega), h.1] at hu
    exact t.2 _ y u hy hu
theorem LRel.consts {M : BMap} (vs : List Value) : LRel M (vs.map .c) vs := by
  refine ⟨by simp, fun i x v hx hv => ?_⟩
  simp [List.getElem?_map, hv] at hx; subst hx; exact .c v
theorem LRel.get {M : BMap} {l : List AV} {vs : List Value} (h : LRel M l vs) {i : Nat} {x : AV} (hx : l[i]? = some x) : ∃ v, vs[i]? = some v ∧ VRel M x v := by
  have hi : i < l.length := by
    by_cases hi : i < l.length
    · exact hi
    · rw [List.getElem?_eq_none (by omega)] at hx; simp at hx
  have hv : i < vs.length := by rw [h.1]; exact hi
  exact ⟨vs[i], List.getElem?_eq_getElem hv, h.2 i x _ hx (List.getElem?_eq_getElem hv)⟩
theorem LRel.set {M : BMap} {l : List AV} {vs : List Value} (h : LRel M l vs) (i : Nat) {x : AV} {v : Value} (hx : VRel M x v) : LRel M (l.set i x) (vs.set i v) := by
  refine ⟨by simp [h.1], fun j y u hy hu => ?_⟩
  rw [List.getElem?_set] at hy hu
  by_cases hij : i = j
  · subst hij
    rw [if_pos rfl] at hy hu
    by_cases hl : i < l.length
    · rw [if_pos hl] at hy; rw [if_pos (by rw [h.1]; exact hl)] at hu
      simp at hy hu; subst hy hu; exact hx
    · rw [if_neg hl] at hy; simp at hy
  · rw [if_neg hij] at hy hu; exact h.2 j y u hy hu
theorem LRel.take {M : BMap} {l : List AV} {vs : List Value} (h : LRel M l vs) (n : Nat) : LRel M (l.take n) (vs.take n) := by
  refine ⟨by simp [h.1], fun j y u hy hu => ?_⟩
  rw [List.getElem?_take] at hy hu
  split at hy
  · rename_i hj; rw [if_pos hj] at hu; exact h.2 j y u hy hu
  · simp at hy
theorem LRel.drop {M : BMap} {l : List AV} {vs : List Value} (h : LRel M l vs) (n : Nat) : LRel M (l.drop n) (vs.drop n) := by
  refine ⟨by simp [h.1], fun j y u hy hu => ?_⟩
  rw [List.getElem?_drop] at hy hu
  exact h.2 _ y u hy hu
theorem LRel.replicate {M : BMap} (n : Nat) {x : AV} {v : Value} (h : VRel M x v) : LRel M (List.replicate n x) (List.replicate n v) := by
  refine ⟨by simp, fun j y u hy hu => ?_⟩
  rw [List.getElem?_replicate] at hy hu
  split at hy
  · rename_i hj; rw [if_pos hj] at hu; simp at hy hu; subst hy hu; exact h
  · simp at hy

theorem VRel.agg' {M : BMap} {l : List AV} {vs : Array Value} (h : LRel M l vs.toList) : VRel M (.agg l) (.agg vs) :=
  .agg (by simpa using h.1) (fun i x v hx hv => h.2 i x v hx (by simpa using hv))
theorem VRel.tup' {M : BMap} {l : List AV} {vs : Array Value} (h : LRel M l vs.toList) : VRel M (.tup l) (.tuple vs) :=
  .tup (by simpa using h.1) (fun i x v hx hv => h.2 i x v hx (by simpa using hv))
theorem VRel.agg_inv {M : BMap} {l : List AV} {v : Value} (h : VRel M (.agg l) v) : ∃ vs, v = .agg vs ∧ LRel M l vs.toList := by
  cases h with
  | agg hn h => exact ⟨_, rfl, by simpa using hn, fun i x v hx hv => h i x v hx (by simpa using hv)⟩
theorem VRel.tup_inv {M : BMap} {l : List AV} {v : Value} (h : VRel M (.tup l) v) : ∃ vs, v = .tuple vs ∧ LRel M l vs.toList := by
  cases h with
  | tup hn h => exact ⟨_, rfl, by simpa using hn, fun i x v hx hv => h i x v hx (by simpa using hv)⟩

/-- The cells that a value lays. -/
def AV.cells : AV → List AV
  | .agg l => l
  | .c (.agg vs) => vs.toList.map .c
  | x => [x]

theorem VRel.cells {M : BMap} {x : AV} {v : Value} (h : VRel M x v) : LRel M x.cells v.cells.toList := by
  cases h with
  | c v =>
    cases v with
    | agg vs => simpa [AV.cells, Value.cells] using LRel.consts (M := M) vs.toList
    | _ => exact LRel.cons (.c _) .nil
  | agg hn h => exact ⟨by simpa [AV.cells, Value.cells] using hn, fun i x v hx hv => h i x v hx (by simpa [Value.cells] using hv)⟩
  | ptr h => exact LRel.cons (.ptr h) .nil
  | sl h a b c => exact LRel.cons (.sl h a b c) .nil
  | mp h => exact LRel.cons (.mp h) .nil
  | iface h => exact LRel.cons (.iface h) .nil
  | tup hn h => exact LRel.cons (.tup hn h) .nil
  | fn hn h hn' h' => exact LRel.cons (.fn hn h hn' h') .nil

/-- What an abstract block says of the model's. -/
def BRel (M : BMap) (cb : CB) : AB → Obj → Prop
  | .cells l e, .cells arr e' fz => e' = e / 2 ∧ arr.size = cb.size ∧ cb.sh + l.length ≤ arr.size ∧ (fz.1 = fz.2 ∨ arr.size ≤ fz.1) ∧
      (∀ (i : Nat) x, l[i]? = some x → ∃ v, arr[cb.sh + i]? = some v ∧ v.oneCell' = true ∧ VRel M x v) ∧ (e % 2 = 1 → cb.sh = 0 ∧ arr.size = l.length)
  | .map es clock, .map arr clock' => clock' = clock ∧ arr.size = es.length ∧
      ∀ (i : Nat) k x n, es[i]? = some (k, x, n) → ∃ e, arr[i]? = some e ∧ e.key = k ∧ e.born = n ∧ VRel M x e.val
  | .siter s p, .stringIter s' p' => s' = s ∧ p' = p ∧ cb.sh = 0
  | .miter m since seen last, .mapIter m' since' seen' last' => since' = since ∧ seen'.toList = seen ∧ last' = last ∧ cb.sh = 0 ∧ (match m with
      | none => m' = none
      | some b => ∃ cbm, M b = some cbm ∧ m' = some cbm.blk)
  | .dead, _ => True
  | _, _ => False

theorem tcode (e : Nat) : e = 2 * e / 2 := by omega
theorem tcode' (e : Nat) : e = (2 * e + 1) / 2 := by omega
theorem tplain {p : Prop} (e : Nat) (h : 2 * e % 2 = 1) : p := by omega
theorem BRel.mono {M M' : BMap} (hM : MLe M M') {cb : CB} {k : AB} {o : Obj} (h : BRel M cb k o) : BRel M' cb k o := by
  cases k <;> cases o <;> simp only [BRel] at h ⊢ <;> first
    | exact h
    | (obtain ⟨a, b, c, d, f, g⟩ := h; exact ⟨a, b, c, d, fun i x hx => let ⟨v, h1, h3, h2⟩ := f i x hx; ⟨v, h1, h3, h2.mono hM⟩, g⟩)
    | (obtain ⟨a, b, c, d, f⟩ := h; refine ⟨a, b, c, d, ?_⟩; split at f <;> first | exact f | (obtain ⟨cm, f1, f2⟩ := f; exact ⟨cm, hM _ _ f1, f2⟩))
    | (obtain ⟨a, b, f⟩ := h; exact ⟨a, b, fun i k x n hx => let ⟨v, h1, h2, h3, h4⟩ := f i k x n hx; ⟨v, h1, h2, h3, h4.mono hM⟩⟩)

/-- The abstract memory F stands for the part of the world's that M tells of: from block 'base' on; what lies ahead of it is as in the world w0. -/
structure HRel (w0 : World) (M : BMap) (F : Nat → Option AB) (w : World) : Prop where
  has : ∀ b cb k, M b = some cb → F b = some k → k.isDead = false → ∃ o, w.heap[cb.blk]? = some o ∧ BRel M cb k o
  inj : ∀ b b' cb cb' k k', M b = some cb → F b = some k → k.isDead = false → M b' = some cb' → F b' = some k' → k'.isDead = false → cb.blk = cb'.blk → b = b'
  bnd : ∀ b cb, M b = some cb → w0.heap.size ≤ cb.blk ∧ cb.blk < w.heap.size
  old : Below w0.heap.size w0 w

/-- The block number i is the place of an abstract block that lives. -/
def Own (M : BMap) (F : Nat → Option AB) (i : Nat) : Prop := ∃ b cb k, M b = some cb ∧ F b = some k ∧ k.isDead = false ∧ cb.blk = i

/-- From a world to the next: what no living abstract block stands for is as it was. -/
structure Fram (M : BMap) (F : Nat → Option AB) (w w' : World) : Prop where
  size : w.heap.size ≤ w'.heap.size
  keep : ∀ i, i < w.heap.size → ¬ Own M F i → w'.heap[i]? = w.heap[i]?

theorem Fram.refl (M : BMap) (F : Nat → Option AB) (w : World) : Fram M F w w := ⟨Nat.le_refl _, fun _ _ _ => rfl⟩
end Go.Sx
