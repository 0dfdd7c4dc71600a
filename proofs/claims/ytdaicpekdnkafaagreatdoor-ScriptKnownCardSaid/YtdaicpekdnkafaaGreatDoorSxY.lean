/- A region whose order is open: what holds between its operations. -/
import Derived.Test.YtdaicpekdnkafaaGreatDoorSxX
namespace Go.Sx
open Go Go.RowKit

theorem HRel.sub {w0 : World} {M : BMap} {F G : Nat → Option AB} {w : World} (K : HRel w0 M F w) (h : ∀ b k, M b ≠ none → G b = some k → F b = some k) : HRel w0 M G w := by
  refine ⟨fun b cb k m g d => K.has b cb k m (h b k (by rw [m]; simp) g) d, ?_, K.bnd, K.old⟩
  intro b b' cb cb' k k' m g d m' g' d' e
  exact K.inj b b' cb cb' k k' m (h b k (by rw [m]; simp) g) d m' (h b' k' (by rw [m']; simp) g') d' e
theorem Own.sub {M : BMap} {F G : Nat → Option AB} {i : Nat} (h : ∀ b k, M b ≠ none → G b = some k → F b = some k) (o : Own M G i) : Own M F i := by
  obtain ⟨b, cb, k, m, g, d, e⟩ := o
  exact ⟨b, cb, k, m, h b k (by rw [m]; simp) g, d, e⟩

theorem agree_sub {M : BMap} {F : Nat → Option AB} {h : H} (F1 : ∀ b, b < h.len → M b ≠ none → F b = h.get b) : ∀ b k, M b ≠ none → h.get b = some k → F b = some k := by
  intro b k m g
  rw [F1 b (Sx.H.get_lt g) m]; exact g

/-- A step upon a part of the memory is one upon the whole. -/
theorem ext {w0 : World} {M M' : BMap} {F : Nat → Option AB} {h h' : H} {w w' : World} (K : HRel w0 M F w) (F1 : ∀ b, b < h.len → M b ≠ none → F b = h.get b) (s : Step w0 M h w M' h' w') :
    HRel w0 M' (fun b => if b < h'.len then h'.get b else F b) w' ∧ Fram M F w w' ∧ (∀ i, Own M' (fun b => if b < h'.len then h'.get b else F b) i → Own M F i ∨ w.heap.size ≤ i) := by
  have hsub := agree_sub F1
  -- what lies behind the part was there before
  have far : ∀ b cb, ¬ b < h'.len → M' b = some cb → M b = some cb := by
    intro b cb hb m
    cases e : M b with
    | none => have := s.new b e (by rw [m]; simp); omega
    | some cb' => rw [s.le b cb' e] at m; exact m
  have apart : ∀ b cb k, ¬ b < h'.len → M b = some cb → F b = some k → k.isDead = false → ¬ Own M h.get cb.blk := by
    rintro b cb k hb m f d ⟨b', cb', k', m', g', d', e⟩
    have := K.inj b b' cb cb' k k' m f d m' (hsub b' k' (by rw [m']; simp) g') d' e.symm
    subst this
    have := Sx.H.get_lt g'
    have := s.len
    omega
  have old : ∀ b cb k, ¬ b < h'.len → M b = some cb → F b = some k → k.isDead = false → w'.heap[cb.blk]? = w.heap[cb.blk]? :=
    fun b cb k hb m f d => s.fram.keep _ (K.bnd b cb m).2 (apart b cb k hb m f d)
  refine ⟨⟨?_, ?_, s.rel.bnd, s.rel.old⟩, ⟨s.fram.size, ?_⟩, ?_⟩
  · intro b cb k m f d
    by_cases hb : b < h'.len
    · simp only [if_pos hb] at f
      exact s.rel.has b cb k m f d
    · simp only [if_neg hb] at f
      have m0 := far b cb hb m
      obtain ⟨o, p, q⟩ := K.has b cb k m0 f d
      exact ⟨o, by rw [old b cb k hb m0 f d]; exact p, q.mono s.le⟩
  · intro b b' cb cb' k k' m f d m' f' d' e
    have mix : ∀ b b' cb cb' k k', b < h'.len → ¬ b' < h'.len → M' b = some cb → h'.get b = some k → k.isDead = false → M' b' = some cb' → F b' = some k' → k'.isDead = false → cb.blk = cb'.blk → False := by
      intro b b' cb cb' k k' hb hb' m f d m' f' d' e
      have m0 := far b' cb' hb' m'
      rcases s.own cb.blk ⟨b, cb, k, m, f, d, rfl⟩ with x | x
      · rw [e] at x; exact apart b' cb' k' hb' m0 f' d' x
      · have := (K.bnd b' cb' m0).2; omega
    by_cases hb : b < h'.len <;> by_cases hb' : b' < h'.len
    · simp only [if_pos hb] at f; simp only [if_pos hb'] at f'
      exact s.rel.inj _ _ _ _ _ _ m f d m' f' d' e
    · simp only [if_pos hb] at f; simp only [if_neg hb'] at f'
      exact (mix _ _ _ _ _ _ hb hb' m f d m' f' d' e).elim
    · simp only [if_neg hb] at f; simp only [if_pos hb'] at f'
      exact (mix _ _ _ _ _ _ hb' hb m' f' d' m f d e.symm).elim
    · simp only [if_neg hb] at f; simp only [if_neg hb'] at f'
      exact K.inj _ _ _ _ _ _ (far _ _ hb m) f d (far _ _ hb' m') f' d' e
  · intro i hi hn
    exact s.fram.keep i hi (fun o => hn (Own.sub hsub o))
  · rintro i ⟨b, cb, k, m, f, d, rfl⟩
    by_cases hb : b < h'.len
    · simp only [if_pos hb] at f
      rcases s.own cb.blk ⟨b, cb, k, m, f, d, rfl⟩ with x | x
      · exact .inl (Own.sub hsub x)
      · exact .inr x
    · simp only [if_neg hb] at f
      exact .inl ⟨b, cb, k, far b cb hb m, f, d, rfl⟩

section
variable {E : Env} {C : CallF} {l : List AOper} {fr : Fr} {h : H}

/-! ### The trace, from place to place -/
structure Tr' (E : Env) (C : CallF) (l : List AOper) (fr : Fr) (h : H) : Prop where
  ok : ∀ i o, l[i]? = some o → wantedA o (st E C l fr h i).1 = true → astep E C o.ao (o.args.map (aeval (st E C l fr h i).1)) (st E C l fr h i).2 = some (vl E C l fr h i, (st E C l fr h (i + 1)).2)
  ver : ∀ i o, l[i]? = some o → isL o.ao = true → wantedA o (st E C l fr h i).1 = true → ∀ p, p ≤ l.length → (p = 0 ∨ ((l.map (·.ao))[p - 1]?).any isW = true) →
    o.lo ≤ wc (l.map (·.ao)) p → wc (l.map (·.ao)) p ≤ o.hi → ∃ q, p ≤ q ∧ q ≤ l.length ∧ wc (l.map (·.ao)) q = wc (l.map (·.ao)) p ∧
      lstep E o.ao (o.args.map (aeval (st E C l fr h i).1)) (st E C l fr h q).2.get = some (vl E C l fr h i)
  len : LenOk C

theorem lt_of_get {α : Type} {l : List α} {i : Nat} {o : α} (h : l[i]? = some o) : i < l.length := (List.getElem?_eq_some_iff.1 h).1

theorem TInv.tr {r : Fr × H} {vs : List H} {ck : List Chk} (T : TInv E C l fr h r l.length vs ck) (hC : LenOk C) : Tr' E C l fr h :=
  ⟨fun i o ho hw => T.ok i o (lt_of_get ho) ho hw, fun i o ho hl hw => T.ver i o (lt_of_get ho) ho hl hw, hC⟩

variable (T : Tr' E C l fr h)
include T

theorem Tr'.fr_true {i : Nat} {o : AOper} (ho : l[i]? = some o) (hw : wantedA o (st E C l fr h i).1 = true) : (st E C l fr h (i + 1)).1 = putA (st E C l fr h i).1 o.dst (vl E C l fr h i) := by
  have := T.ok i o ho hw
  rw [st_succ ho, vl_eq ho]
  simp [stepT, hw, this]
omit T in
theorem st_false {i : Nat} {o : AOper} (ho : l[i]? = some o) (hw : wantedA o (st E C l fr h i).1 = false) : st E C l fr h (i + 1) = (putA (st E C l fr h i).1 o.dst (.c undef), (st E C l fr h i).2) := by
  rw [st_succ ho]; simp [stepT, hw]

theorem Tr'.len1 (i : Nat) : (st E C l fr h i).2.len ≤ (st E C l fr h (i + 1)).2.len := by
  cases ho : l[i]? with
  | none => simp [st, ho]
  | some o =>
    cases hw : wantedA o (st E C l fr h i).1 with
    | true => exact astep_len T.len (T.ok i o ho hw)
    | false => rw [st_false ho hw]; exact Nat.le_refl _
theorem Tr'.lenM {p q : Nat} (hpq : p ≤ q) : (st E C l fr h p).2.len ≤ (st E C l fr h q).2.len := by
  induction q with
  | zero => have : p = 0 := by omega
            subst this; exact Nat.le_refl _
  | succ q ih =>
    by_cases e : p = q + 1
    · subst e; exact Nat.le_refl _
    · exact Nat.le_trans (ih (by omega)) (T.len1 q)

theorem Tr'.frLen (i : Nat) : (st E C l fr h i).1.length = fr.length := by
  induction i with
  | zero => rfl
  | succ i ih =>
    have hp : ∀ d v, (putA (st E C l fr h i).1 d v).length = fr.length := by
      intro d v
      cases d <;> simp [putA, ih]
    cases ho : l[i]? with
    | none => simp [st, ho]; exact ih
    | some o =>
      cases hw : wantedA o (st E C l fr h i).1 with
      | true => rw [T.fr_true ho hw]; exact hp _ _
      | false => rw [st_false ho hw]; exact hp _ _

theorem Tr'.slot1 {i t : Nat} (hn : ∀ o, l[i]? = some o → o.dst ≠ some t) : (st E C l fr h (i + 1)).1[t]? = (st E C l fr h i).1[t]? := by
  have hp : ∀ d v, d ≠ some t → (putA (st E C l fr h i).1 d v)[t]? = (st E C l fr h i).1[t]? := by
    intro d v hd
    cases d with
    | none => rfl
    | some d =>
      simp only [putA]
      rw [List.getElem?_set_ne]
      intro e; apply hd; rw [e]
  cases ho : l[i]? with
  | none => simp [st, ho]
  | some o =>
    cases hw : wantedA o (st E C l fr h i).1 with
    | true => rw [T.fr_true ho hw]; exact hp _ _ (hn o ho)
    | false => rw [st_false ho hw]; exact hp _ _ (hn o ho)
theorem Tr'.slotM {p q t : Nat} (hpq : p ≤ q) (hn : ∀ k o, p ≤ k → k < q → l[k]? = some o → o.dst ≠ some t) : (st E C l fr h q).1[t]? = (st E C l fr h p).1[t]? := by
  induction q with
  | zero => have : p = 0 := by omega
            subst this; rfl
  | succ q ih =>
    by_cases e : p = q + 1
    · subst e; rfl
    · rw [T.slot1 (fun o ho => hn q o (by omega) (by omega) ho)]
      exact ih (by omega) (fun k o h1 h2 => hn k o h1 (by omega))

/-- No operation that writes from p to q. -/
theorem Tr'.keep1 {i : Nat} (hn : ∀ o, l[i]? = some o → isW o.ao = false) {b : Nat} (hb : b < (st E C l fr h i).2.len) : (st E C l fr h (i + 1)).2.get b = (st E C l fr h i).2.get b := by
  cases ho : l[i]? with
  | none => simp [st, ho]
  | some o =>
    cases hw : wantedA o (st E C l fr h i).1 with
    | false => rw [st_false ho hw]
    | true =>
      have hs := T.ok i o ho hw
      have hnw := hn o ho
      cases hcls : o.ao.cls with
      | w => simp [isW, hcls] at hnw
      | p => simp only [astep, hcls, Option.map_eq_some_iff, Prod.mk.injEq] at hs; obtain ⟨_, _, _, e⟩ := hs; rw [← e]
      | l => simp only [astep, hcls, Option.map_eq_some_iff, Prod.mk.injEq] at hs; obtain ⟨_, _, _, e⟩ := hs; rw [← e]
      | a =>
        simp only [astep, hcls, Option.map_eq_some_iff, Prod.mk.injEq] at hs
        obtain ⟨r, _, _, e⟩ := hs
        rw [← e, Sx.H.get_push, if_neg (by omega)]
theorem Tr'.keepM {p q : Nat} (hpq : p ≤ q) (hn : ∀ k o, p ≤ k → k < q → l[k]? = some o → isW o.ao = false) {b : Nat} (hb : b < (st E C l fr h p).2.len) : (st E C l fr h q).2.get b = (st E C l fr h p).2.get b := by
  induction q with
  | zero => have : p = 0 := by omega
            subst this; rfl
  | succ q ih =>
    by_cases e : p = q + 1
    · subst e; rfl
    · rw [T.keep1 (fun o ho => hn q o (by omega) (by omega) ho) (Nat.lt_of_lt_of_le hb (T.lenM (by omega)))]
      exact ih (by omega) (fun k o h1 h2 => hn k o h1 (by omega))

omit T in
theorem trRange {p q b : Nat} (hpq : p ≤ q) (h1 : (st E C l fr h p).2.len ≤ b) (h2 : b < (st E C l fr h q).2.len) : ∃ k, p ≤ k ∧ k < q ∧ (st E C l fr h k).2.len ≤ b ∧ b < (st E C l fr h (k + 1)).2.len := by
  induction q with
  | zero => have : p = 0 := by omega
            subst this; omega
  | succ q ih =>
    by_cases e : p = q + 1
    · subst e; omega
    · by_cases hq : b < (st E C l fr h q).2.len
      · obtain ⟨k, a, b, c, d⟩ := ih (by omega) hq
        exact ⟨k, a, by omega, c, d⟩
      · exact ⟨q, by omega, by omega, by omega, h2⟩
omit T in
theorem range_op {k b : Nat} (h1 : (st E C l fr h k).2.len ≤ b) (h2 : b < (st E C l fr h (k + 1)).2.len) : ∃ o, l[k]? = some o := by
  cases ho : l[k]? with
  | none => simp [st, ho] at h2; omega
  | some o => exact ⟨o, rfl⟩
theorem Tr'.disj {j k b : Nat} (h1 : (st E C l fr h j).2.len ≤ b) (h2 : b < (st E C l fr h (j + 1)).2.len) (h3 : (st E C l fr h k).2.len ≤ b) (h4 : b < (st E C l fr h (k + 1)).2.len) : j = k := by
  rcases Nat.lt_trichotomy j k with x | x | x
  · have := T.lenM (show j + 1 ≤ k by omega); omega
  · exact x
  · have := T.lenM (show k + 1 ≤ j by omega); omega

/-- Operations that lay no block and write none. -/
theorem Tr'.same {i : Nat} {o : AOper} (ho : l[i]? = some o) (hc : o.ao.cls = .p ∨ o.ao.cls = .l ∨ wantedA o (st E C l fr h i).1 = false) : (st E C l fr h (i + 1)).2 = (st E C l fr h i).2 := by
  cases hw : wantedA o (st E C l fr h i).1 with
  | false => rw [st_false ho hw]
  | true =>
    have hs := T.ok i o ho hw
    rcases hc with x | x | x
    · simp only [astep, x, Option.map_eq_some_iff, Prod.mk.injEq] at hs; obtain ⟨_, _, _, e⟩ := hs; rw [← e]
    · simp only [astep, x, Option.map_eq_some_iff, Prod.mk.injEq] at hs; obtain ⟨_, _, _, e⟩ := hs; rw [← e]
    · rw [hw] at x; cases x
end
end Go.Sx
