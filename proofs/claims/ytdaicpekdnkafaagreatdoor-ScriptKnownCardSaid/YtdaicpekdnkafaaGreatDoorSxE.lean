/- The operations that look at no memory are the model's. -/
import Derived.Test.YtdaicpekdnkafaaGreatDoorSxD
namespace Go.Sx
open Go Go.RowKit

section
variable {E : Env} {ρ : Operand → Value} {M : BMap} {w : World}

/-- The answer of an operation that changes nothing. -/
def Ans (E : Env) (M : BMap) (w : World) (s : Sem Next) (x : AV) : Prop := ∃ nx v, s.run E.P w = .ok nx w ∧ nval nx = some v ∧ VRel M x v

theorem cut_spec {l r : List AV} {o n : Nat} (h : cut l o n = some r) : r = (l.drop o).take n ∧ r.length = n := by
  simp only [cut] at h
  cases hb : ((l.drop o).take n).length.beq n with
  | false => rw [hb] at h; cases h
  | true =>
    rw [hb, cond_true] at h
    injection h with h
    subst h
    exact ⟨rfl, Nat.eq_of_beq_eq_true hb⟩

/-- One field of what was filled in. -/
theorem splice_rel {l k : List AV} {vs us : List Value} {o : Nat} (h : LRel M l vs) (h' : LRel M k us) :
    LRel M (splice l o k) (vs.take o ++ us ++ vs.drop (o + us.length)) := by
  unfold splice
  rw [h'.1]
  exact ((h.take o).append h').append (h.drop _)

theorem foldl_set (cs : List Value) : ∀ (arr : Array Value) (off : Nat), off + cs.length ≤ arr.size → ∀ j0 : Nat,
    ((cs.zipIdx j0).foldl (fun (cs : Array Value) (x : Value × Nat) => cs.setIfInBounds (off - j0 + x.2) x.1) arr).toList = arr.toList.take (off) ++ cs ++ arr.toList.drop (off + cs.length) ∨ off < j0 := by
  induction cs with
  | nil => intro arr off h j0; left; simp
  | cons c cs ih =>
    intro arr off h j0
    by_cases hj : off < j0
    · right; exact hj
    left
    simp only [List.zipIdx_cons, List.foldl_cons]
    have e0 : off - j0 + j0 = off := by omega
    rw [e0]
    have := ih (arr.setIfInBounds off c) (off + 1) (by simp at h ⊢; omega) (j0 + 1)
    rcases this with h1 | h1
    · have e1 : off + 1 - (j0 + 1) = off - j0 := by omega
      rw [e1] at h1
      rw [h1]
      simp only [Array.toList_setIfInBounds, List.length_cons] at *
      have hlt : off < arr.toList.length := by simp; omega
      rw [List.take_set, List.drop_set]
      apply List.ext_getElem?
      intro i
      simp only [List.append_assoc, List.getElem?_append, List.getElem?_take, List.length_take, List.length_set, List.cons_append]
      grind
    · omega

theorem fill_sim {places : Nat → Option (Nat × Nat)} : ∀ (parts : List (Nat × Value)) {ps : List (Nat × Nat)} {xs cells cells' : List AV} {arr : Array Value},
    LRel M cells arr.toList → LRel M xs (parts.map (·.2)) → ps.length = parts.length → (∀ (i : Nat) p q, ps[i]? = some p → parts[i]? = some q → places q.1 = some p) →
    fillA cells ps xs = some cells' → ∃ arr', Instr.fill places arr parts = some arr' ∧ LRel M cells' arr'.toList := by
  intro parts
  induction parts with
  | nil =>
    intro ps xs cells cells' arr hc hx hl hp hf
    have hps : ps = [] := by cases ps <;> simp_all
    have hxs : xs = [] := LRel.inv0 (by simpa using hx)
    subst hps hxs
    simp [fillA] at hf; subst hf
    exact ⟨arr, rfl, hc⟩
  | cons q parts ih =>
    intro ps xs cells cells' arr hc hx hl hp hf
    obtain ⟨i, v⟩ := q
    cases ps with
    | nil => simp at hl
    | cons p ps =>
      obtain ⟨off, n⟩ := p
      obtain ⟨x, xs', rfl, hv, hr⟩ := LRel.invC (by simpa using hx)
      simp only [fillA] at hf
      cases hb : (x.cells.length.beq n && (off + n).ble cells.length) with
      | false => simp [hb] at hf
      | true =>
        rw [hb, cond_true] at hf
        simp only [Bool.and_eq_true] at hb
        have e1 := Nat.eq_of_beq_eq_true hb.1
        have e2 := Nat.le_of_ble_eq_true hb.2
        have hvc := hv.cells
        have hsz : v.cells.size = n := by have := hvc.1; simp at this; omega
        have hle : off + v.cells.size ≤ arr.size := by have := hc.1; simp at this; omega
        have hpl := hp 0 (off, n) (i, v) rfl rfl
        have hfold := foldl_set v.cells.toList arr off (by simpa using hle) 0
        simp only [Nat.sub_zero, Nat.not_lt_zero, or_false] at hfold
        have hnew : LRel M (splice cells off x.cells) (v.cells.zipIdx.foldl (fun cs (c, j) => cs.setIfInBounds (off + j) c) arr).toList := by
          have e : (v.cells.zipIdx.foldl (fun cs (c, j) => cs.setIfInBounds (off + j) c) arr).toList = arr.toList.take off ++ v.cells.toList ++ arr.toList.drop (off + v.cells.toList.length) := by
            rw [← hfold, ← Array.foldl_toList, Array.toList_zipIdx]
          rw [e]
          exact splice_rel hc hvc
        obtain ⟨arr', h1, h2⟩ := ih (ps := ps) hnew hr (by simpa using hl) (fun j p q hp1 hq1 => hp (j + 1) p q (by simpa using hp1) (by simpa using hq1)) hf
        refine ⟨arr', ?_, h2⟩
        simp only [Instr.fill, hpl]
        rw [if_neg (by simp [hsz]; have := hc.1; simp at this; omega)]
        exact h1
end
end Go.Sx
