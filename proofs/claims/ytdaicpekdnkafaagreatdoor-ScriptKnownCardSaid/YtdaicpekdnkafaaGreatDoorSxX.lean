/- The orders that a region's edges leave open. -/
import Derived.Test.YtdaicpekdnkafaaGreatDoorSxW
namespace Go.Sx
open Go Go.RowKit

/-- Which operations are listed. -/
def Lst (listed : Array Bool) (k : Nat) : Prop := listed[k]? = some true

/-- What the edges of a listed operation name is listed. -/
def Closed (ops : Array Oper) (S : Nat → Prop) : Prop := ∀ (k : Nat) (o : Oper), ops[k]? = some o → S k → ∀ e ∈ o.after, Region.binds .any e = true → S e.on

/-- All edges go back. -/
def Back (ops : Array Oper) : Prop := ∀ (k : Nat) (o : Oper), ops[k]? = some o → ∀ e ∈ o.after, Region.binds .any e = true → e.on < k

theorem before_size (ops : Array Oper) : (Region.before ops).size = ops.size := by
  unfold Region.before
  rw [← Array.foldl_toList]
  have : ∀ (l : List Oper) (acc : Array Nat), (l.foldl (fun acc o => acc.push (o.after.foldl (fun s e => if Region.binds .any e then s ||| 2 ^ e.on ||| acc.getD e.on 0 else s) 0)) acc).size = acc.size + l.length := by
    intro l
    induction l with
    | nil => intro acc; simp
    | cons o l ih => intro acc; simp only [List.foldl_cons]; rw [ih]; simp; omega
  rw [this]; simp

theorem foldl_bits (A : Array Nat) (i : Nat) : ∀ (l : List Edge) (s : Nat), (l.foldl (fun s e => if Region.binds .any e then s ||| 2 ^ e.on ||| A.getD e.on 0 else s) s).testBit i = true →
    s.testBit i = true ∨ ∃ e ∈ l, Region.binds .any e = true ∧ (e.on = i ∨ (A.getD e.on 0).testBit i = true) := by
  intro l
  induction l with
  | nil => intro s h; exact .inl h
  | cons e l ih =>
    intro s h
    simp only [List.foldl_cons] at h
    rcases ih _ h with x | ⟨e', m, b, x⟩
    · cases hb : Region.binds .any e with
      | false => rw [hb] at x; exact .inl (by simpa using x)
      | true =>
        rw [hb] at x
        simp only [if_true, Nat.testBit_or, Bool.or_eq_true, Nat.testBit_two_pow, decide_eq_true_eq] at x
        rcases x with (x | x) | x
        · exact .inl x
        · exact .inr ⟨e, by simp, hb, .inl x⟩
        · exact .inr ⟨e, by simp, hb, .inr x⟩
    · exact .inr ⟨e', by simp [m], b, x⟩

/-- What is ahead of a listed operation is listed. -/
theorem ahead_listed {ops : Array Oper} (hb : Back ops) {S : Nat → Prop} (hS : Closed ops S) : ∀ (k i : Nat), S k → ahead (Region.before ops) i k = true → S i := by
  have key : ∀ (L done : List Oper) (acc : Array Nat), ops.toList = done ++ L → acc.size = done.length → (∀ k i, k < acc.size → S k → (acc.getD k 0).testBit i = true → S i) →
      ∀ k i, S k → ((L.foldl (fun acc o => acc.push (o.after.foldl (fun s e => if Region.binds .any e then s ||| 2 ^ e.on ||| acc.getD e.on 0 else s) 0)) acc).getD k 0).testBit i = true → S i := by
    intro L
    induction L with
    | nil =>
      intro done acc _ hs h k i hk ht
      by_cases hl : k < acc.size
      · exact h k i hl hk (by simpa using ht)
      · simp [Array.getD, hl] at ht
    | cons o L ih =>
      intro done acc hd hs h k i hk ht
      simp only [List.foldl_cons] at ht
      refine ih (done ++ [o]) _ (by simp [hd]) (by simp [hs]) ?_ k i hk ht
      intro k i hl hk ht
      by_cases e : k < acc.size
      · refine h k i e hk ?_
        simp only [Array.getD_eq_getD_getElem?, Array.getElem?_push, if_neg (show ¬ k = acc.size by omega)] at ht ⊢
        exact ht
      · have ek : k = acc.size := by simp at hl; omega
        subst ek
        simp only [Array.getD_eq_getD_getElem?, Array.getElem?_push, if_pos, Option.getD_some] at ht
        rw [← Array.foldl_toList] at ht
        have hop : ops[acc.size]? = some o := by
          rw [← Array.getElem?_toList, hd, hs]; simp
        have ht' : (o.after.toList.foldl (fun s e => if Region.binds .any e then s ||| 2 ^ e.on ||| acc.getD e.on 0 else s) 0).testBit i = true := by
          simpa [Array.getD_eq_getD_getElem?] using ht
        rcases foldl_bits acc i o.after.toList 0 ht' with x | ⟨e, m, b, x⟩
        · simp at x
        · have me : e ∈ o.after := by simpa using m
          have hlt := hb _ o hop e me b
          have hSe := hS _ o hop hk e me b
          rcases x with x | x
          · rw [← x]; exact hSe
          · exact h e.on i hlt hSe x
  intro k i hk ht
  unfold ahead Region.before at ht
  rw [← Array.foldl_toList] at ht
  exact key ops.toList [] #[] (by simp) rfl (by simp) k i hk (by simpa using ht)

/-! ### What is ready -/
theorem ready_spec {ops : Array Oper} {listed : Array Bool} (hn : listed.size = ops.size) {i : Nat} (h : i ∈ Region.ready .any ops listed) :
    i < ops.size ∧ listed[i]? = some false ∧ ∀ o, ops[i]? = some o → ∀ e ∈ o.after, Region.binds .any e = true → Lst listed e.on := by
  simp only [Region.ready, List.mem_filter, List.mem_range, Bool.and_eq_true, Bool.not_eq_true'] at h
  obtain ⟨h1, h2, h3⟩ := h
  refine ⟨h1, ?_, ?_⟩
  · rw [Array.getD_eq_getD_getElem?] at h2
    rw [Array.getElem?_eq_getElem (by omega)] at h2 ⊢
    simpa using h2
  · intro o ho e he hb
    rw [ho] at h3
    simp only [Option.map_some, Option.getD_some] at h3
    have := (Array.all_eq_true_iff_forall_mem.1 h3) e he
    rw [hb] at this
    simp only [Bool.not_true, Bool.false_or, Array.getD_eq_getD_getElem?] at this
    unfold Lst
    cases hx : listed[e.on]? with
    | none => rw [hx] at this; cases this
    | some b => rw [hx] at this; simp at this; rw [this]

theorem ready_nil {ops : Array Oper} (hb : Back ops) {listed : Array Bool} (hn : listed.size = ops.size) (h : Region.ready .any ops listed = []) : ∀ k, k < ops.size → Lst listed k := by
  intro k
  induction k using Nat.strongRecOn with
  | ind k ih =>
    intro hk
    have hno : k ∉ Region.ready .any ops listed := by rw [h]; simp
    unfold Lst
    have he : listed[k]? = some listed[k] := Array.getElem?_eq_getElem (by omega)
    rw [he]
    congr 1
    cases hl : listed[k] with
    | true => rfl
    | false =>
      exfalso
      apply hno
      simp only [Region.ready, List.mem_filter, List.mem_range, Bool.and_eq_true, Bool.not_eq_true']
      refine ⟨hk, ?_, ?_⟩
      · rw [Array.getD_eq_getD_getElem?, he, hl]; rfl
      · have ho : ops[k]? = some ops[k] := Array.getElem?_eq_getElem hk
        rw [ho]
        simp only [Option.map_some, Option.getD_some]
        rw [Array.all_eq_true_iff_forall_mem]
        intro e hm
        cases hbb : Region.binds .any e with
        | false => rfl
        | true =>
          have hlt := hb k _ ho e hm hbb
          have := ih e.on hlt (by omega)
          unfold Lst at this
          simp [Array.getD_eq_getD_getElem?, this]

/-! ### How many are not listed -/
theorem count_set : ∀ (l : List Bool) (i : Nat), l[i]? = some false → (l.set i true).count false + 1 = l.count false := by
  intro l
  induction l with
  | nil => intro i h; simp at h
  | cons b l ih =>
    intro i h
    cases i with
    | zero => simp at h; subst h; simp
    | succ i =>
      have := ih i (by simpa using h)
      simp only [List.set_cons_succ, List.count_cons]
      omega
theorem count_zero {l : List Bool} (h : l.count false = 0) : ∀ k, k < l.length → l[k]? = some true := by
  intro k hk
  rw [List.getElem?_eq_getElem hk]
  congr 1
  cases e : l[k] with
  | true => rfl
  | false =>
    have : false ∈ l := by rw [← e]; exact List.getElem_mem hk
    have := List.count_pos_iff.2 this
    omega

/-! ### What regOk says -/
theorem regOk_back {ops : Array Oper} {l : List AOper} (h : regOk ops l = true) : Back ops := by
  intro k o ho e he hb
  simp only [regOk, Bool.and_eq_true] at h
  obtain ⟨⟨h, _⟩, _⟩ := h
  rw [List.all_eq_true] at h
  have hm : (o, k) ∈ ops.toList.zipIdx := by
    rw [List.mem_zipIdx_iff_getElem?]; simpa using ho
  have := h _ hm
  simp only at this
  have := (Array.all_eq_true_iff_forall_mem.1 this) e he
  rw [hb] at this
  simpa using Nat.blt_eq.mp (by simpa using this)

theorem regOk_names {ops : Array Oper} {l : List AOper} (h : regOk ops l = true) {k i : Nat} {o u : AOper} (ho : l[k]? = some o) (hu : l[i]? = some u) (hne : i ≠ k) {t : Nat} (ht : t ∈ namesOf o) (hd : u.dst = some t) :
    if i < k then ahead (Region.before ops) i k = true else ahead (Region.before ops) k i = true := by
  simp only [regOk, Bool.and_eq_true] at h
  obtain ⟨⟨_, h⟩, _⟩ := h
  rw [List.all_eq_true] at h
  have := h (o, k) (by rw [List.mem_zipIdx_iff_getElem?]; simpa using ho)
  simp only at this
  rw [List.all_eq_true] at this
  have := this (u, i) (by rw [List.mem_zipIdx_iff_getElem?]; simpa using hu)
  simp only [Bool.or_eq_true] at this
  rcases this with (x | x) | x
  · exact absurd (Nat.eq_of_beq_eq_true x) hne
  · exfalso
    have : ((namesOf o).any fun t => u.dst == some t) = true := List.any_eq_true.2 ⟨t, ht, by simp [hd]⟩
    rw [this] at x; cases x
  · by_cases e : i < k
    · rw [if_pos e]; rw [blt_iff.2 e] at x; exact x
    · rw [if_neg e]
      have : i.blt k = false := by rw [Bool.eq_false_iff]; exact fun y => e (blt_iff.1 y)
      rw [this] at x; exact x

theorem regOk_w {ops : Array Oper} {l : List AOper} (h : regOk ops l = true) {k i : Nat} {o u : AOper} (ho : l[k]? = some o) (hu : l[i]? = some u) (hlt : i < k) (hw : isW o.ao = true) (hw' : isW u.ao = true) :
    ahead (Region.before ops) i k = true := by
  simp only [regOk, Bool.and_eq_true] at h
  obtain ⟨_, h⟩ := h
  rw [List.all_eq_true] at h
  have := h (o, k) (by rw [List.mem_zipIdx_iff_getElem?]; simpa using ho)
  simp only at this
  rw [List.all_eq_true] at this
  have := this (u, i) (by rw [List.mem_zipIdx_iff_getElem?]; simpa using hu)
  rw [blt_iff.2 hlt, hw, hw'] at this
  simpa using this
end Go.Sx
