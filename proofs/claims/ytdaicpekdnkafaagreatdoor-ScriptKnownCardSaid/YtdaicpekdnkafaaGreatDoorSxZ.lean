/- A region whose order is open: its invariant. -/
import Derived.Test.YtdaicpekdnkafaaGreatDoorSxY
namespace Go.Sx
open Go Go.RowKit

/-- Between the operations of a region that runs in some order: S has run. M0, w0: as it began. -/
structure CInv (E : Env) (C : CallF) (l : List AOper) (fr : Fr) (h : H) (M0 : BMap) (w0 : World) (d0 : List Deferred) (S : Nat → Prop) (cut : Nat) (M : BMap) (F : Nat → Option AB) (a : Act) (w : World) : Prop where
  cutW : ∀ k u, l[k]? = some u → isW u.ao = true → (S k ↔ k < cut)
  rel : HRel E.W0 M F w
  F1 : ∀ b, b < (st E C l fr h cut).2.len → M b ≠ none → F b = (st E C l fr h cut).2.get b
  F2 : ∀ j u, l[j]? = some u → S j → cut ≤ j → ∀ b, (st E C l fr h j).2.len ≤ b → b < (st E C l fr h (j + 1)).2.len → M b ≠ none → F b = (st E C l fr h (j + 1)).2.get b
  D : ∀ j u, l[j]? = some u → ¬ S j → ∀ b, (st E C l fr h j).2.len ≤ b → b < (st E C l fr h (j + 1)).2.len → M b = none
  G : ∀ j u, l[j]? = some u → ¬ S j → j < cut → ∀ b, (st E C l fr h j).2.len ≤ b → b < (st E C l fr h (j + 1)).2.len → (st E C l fr h cut).2.get b = (st E C l fr h (j + 1)).2.get b
  le : MLe M0 M
  new : ∀ b, M0 b = none → M b ≠ none → h.len ≤ b ∧ b < (st E C l fr h l.length).2.len
  fram : Fram M0 h.get w0 w
  own : ∀ i, Own M F i → Own M0 h.get i ∨ w0.heap.size ≤ i
  ghost : ∀ b, b < h.len → M0 b = none → (st E C l fr h cut).2.get b = h.get b
  slots : ∀ t, ∃ p, (∀ k u, l[k]? = some u → u.dst = some t → (S k ↔ k < p)) ∧ SlotRel M (st E C l fr h p).1 a.tmps t
  size : a.tmps.size = fr.length
  defers : a.defers = d0

section
variable {E : Env} {C : CallF} {l : List AOper} {fr : Fr} {h : H} {M0 : BMap} {w0 : World} {d0 : List Deferred}

theorem CInv.init {S : Nat → Prop} (hS : ∀ k, ¬ S k) (T : Tr' E C l fr h) {a : Act} (K : HRel E.W0 M0 h.get w0) (hfr : LRel M0 fr a.tmps.toList) (hf : Fresh M0 h.len (st E C l fr h l.length).2.len) :
    CInv E C l fr h M0 w0 a.defers S 0 M0 h.get a w0 where
  cutW := fun k u _ _ => ⟨fun x => absurd x (hS k), fun x => by omega⟩
  rel := K
  F1 := fun b _ _ => rfl
  F2 := fun j u _ hj => absurd hj (hS j)
  D := fun j u hj _ b h1 h2 => hf b (Nat.le_trans (T.lenM (Nat.zero_le j)) h1) (Nat.lt_of_lt_of_le h2 (T.lenM (lt_of_get hj)))
  G := fun j u _ _ hlt => absurd hlt (Nat.not_lt_zero j)
  le := MLe.refl _
  new := fun b x y => absurd x y
  fram := Fram.refl _ _ _
  own := fun i x => .inl x
  ghost := fun b _ _ => rfl
  slots := fun t => ⟨0, fun k u _ _ => ⟨fun x => absurd x (hS k), fun x => by omega⟩, fun x v hx hv => hfr.2 t x v hx (by simpa using hv)⟩
  size := by simpa using hfr.1
  defers := rfl

variable {S : Nat → Prop} {cut : Nat} {M : BMap} {F : Nat → Option AB} {a : Act} {w : World}

/-- The cut may stand anywhere between two operations that write. -/
theorem CInv.recut (T : Tr' E C l fr h) (I : CInv E C l fr h M0 w0 d0 S cut M F a w) {cut' : Nat} (hc : ∀ k u, l[k]? = some u → isW u.ao = true → (k < cut ↔ k < cut')) :
    CInv E C l fr h M0 w0 d0 S cut' M F a w := by
  have hcW : ∀ k u, l[k]? = some u → isW u.ao = true → (S k ↔ k < cut') := fun k u hk hw => (I.cutW k u hk hw).trans (hc k u hk hw)
  by_cases hle : cut ≤ cut'
  · have hn : ∀ k o, cut ≤ k → k < cut' → l[k]? = some o → isW o.ao = false := by
      intro k o h1 h2 ho
      cases hw : isW o.ao with
      | false => rfl
      | true => have := (hc k o ho hw).2 h2; omega
    have hkeep := fun b hb => T.keepM hle hn (b := b) hb
    have hnew : ∀ j b, cut ≤ j → j < cut' → b < (st E C l fr h (j + 1)).2.len → (st E C l fr h cut').2.get b = (st E C l fr h (j + 1)).2.get b :=
      fun j b h1 h2 hb => T.keepM (show j + 1 ≤ cut' by omega) (fun k o a b => hn k o (by omega) b) hb
    refine { I with cutW := hcW, F1 := ?_, F2 := ?_, G := ?_, ghost := ?_ }
    · intro b hb hm
      by_cases hb' : b < (st E C l fr h cut).2.len
      · rw [I.F1 b hb' hm, hkeep b hb']
      · obtain ⟨k, h1, h2, h3, h4⟩ := trRange hle (by omega) hb
        obtain ⟨o, ho⟩ := range_op h3 h4
        have hs : S k := by
          apply Classical.byContradiction
          intro hs; exact hm (I.D k o ho hs b h3 h4)
        rw [I.F2 k o ho hs h1 b h3 h4 hm, hnew k b h1 h2 h4]
    · intro j u hj hs hcj b h1 h2 hm
      exact I.F2 j u hj hs (by omega) b h1 h2 hm
    · intro j u hj hs hcj b h1 h2
      by_cases e : j < cut
      · rw [hkeep b (Nat.lt_of_lt_of_le h2 (T.lenM (by omega)))]
        exact I.G j u hj hs e b h1 h2
      · exact hnew j b (by omega) hcj h2
    · intro b hb hm
      rw [hkeep b (Nat.lt_of_lt_of_le hb (T.lenM (Nat.zero_le cut)))]
      exact I.ghost b hb hm
  · have hle : cut' ≤ cut := by omega
    have hn : ∀ k o, cut' ≤ k → k < cut → l[k]? = some o → isW o.ao = false := by
      intro k o h1 h2 ho
      cases hw : isW o.ao with
      | false => rfl
      | true => have := (hc k o ho hw).1 h2; omega
    have hkeep := fun b hb => T.keepM hle hn (b := b) hb
    have hnew : ∀ j b, cut' ≤ j → j < cut → b < (st E C l fr h (j + 1)).2.len → (st E C l fr h cut).2.get b = (st E C l fr h (j + 1)).2.get b :=
      fun j b h1 h2 hb => T.keepM (show j + 1 ≤ cut by omega) (fun k o a b => hn k o (by omega) b) hb
    refine { I with cutW := hcW, F1 := ?_, F2 := ?_, G := ?_, ghost := ?_ }
    · intro b hb hm
      rw [I.F1 b (Nat.lt_of_lt_of_le hb (T.lenM hle)) hm, hkeep b hb]
    · intro j u hj hs hcj b h1 h2 hm
      by_cases e : cut ≤ j
      · exact I.F2 j u hj hs e b h1 h2 hm
      · rw [I.F1 b (Nat.lt_of_lt_of_le h2 (T.lenM (by omega))) hm]
        exact hnew j b hcj (by omega) h2
    · intro j u hj hs hcj b h1 h2
      rw [← hkeep b (Nat.lt_of_lt_of_le h2 (T.lenM (by omega)))]
      exact I.G j u hj hs (by omega) b h1 h2
    · intro b hb hm
      rw [← hkeep b (Nat.lt_of_lt_of_le hb (T.lenM (Nat.zero_le cut')))]
      exact I.ghost b hb hm

/-- A slot that an operation names has the value of its place in the text. -/
theorem CInv.slotAt (T : Tr' E C l fr h) (I : CInv E C l fr h M0 w0 d0 S cut M F a w) {i t : Nat} (hw : ∀ k u, l[k]? = some u → u.dst = some t → (S k ↔ k < i)) : SlotRel M (st E C l fr h i).1 a.tmps t := by
  obtain ⟨p, h1, h2⟩ := I.slots t
  have : (st E C l fr h i).1[t]? = (st E C l fr h p).1[t]? := by
    by_cases hp : p ≤ i
    · exact T.slotM hp fun k o a b ho hd => by have := (h1 k o ho hd).symm.trans (hw k o ho hd); omega
    · exact (T.slotM (show i ≤ p by omega) fun k o a b ho hd => by have := (h1 k o ho hd).symm.trans (hw k o ho hd); omega).symm
  intro x v hx hv
  rw [this] at hx
  exact h2 x v hx hv

theorem put_size (a : Act) (d : Option Tmp) (v : Value) : (a.put d v).tmps.size = a.tmps.size := by cases d <;> simp [Act.put]
theorem put_defers (a : Act) (d : Option Tmp) (v : Value) : (a.put d v).defers = a.defers := by cases d <;> rfl

/-- The slots behind the operation i. -/
theorem CInv.slotsPut (T : Tr' E C l fr h) (I : CInv E C l fr h M0 w0 d0 S cut M F a w) {S' : Nat → Prop} {i : Nat} {u : AOper} (hu : l[i]? = some u) (hS' : ∀ k, S' k ↔ S k ∨ k = i) (hi : ¬ S i) {M' : BMap} (hle : MLe M M') {x : AV} {v : Value}
    (hst : (st E C l fr h (i + 1)).1 = putA (st E C l fr h i).1 u.dst x) (hv : VRel M' x v) (hd : ∀ t, u.dst = some t → ∀ k u', l[k]? = some u' → u'.dst = some t → (S k ↔ k < i)) :
    ∀ t, ∃ p, (∀ k u, l[k]? = some u → u.dst = some t → (S' k ↔ k < p)) ∧ SlotRel M' (st E C l fr h p).1 (a.put u.dst v).tmps t := by
  intro t
  by_cases e : u.dst = some t
  · refine ⟨i + 1, ?_, ?_⟩
    · intro k u' hk hd'
      rw [hS']
      have := hd t e k u' hk hd'
      constructor
      · rintro (x | x)
        · have := this.1 x; omega
        · omega
      · intro x
        by_cases ek : k = i
        · exact .inr ek
        · exact .inl (this.2 (by omega))
    · intro y z hy hz
      rw [hst, e] at hy
      rw [e] at hz
      simp only [putA] at hy
      simp only [Act.put] at hz
      rw [List.getElem?_set_self'] at hy
      rw [Array.getElem?_setIfInBounds] at hz
      rcases slot_get (show a.tmps.size = (st E C l fr h i).1.length by rw [T.frLen, I.size]) t with ⟨_, _, e1, e2⟩ | ⟨e1, e2⟩
      · rw [e1] at hy
        simp at hy
        rw [if_pos rfl] at hz
        split at hz
        · simp at hz; subst hy hz; exact hv
        · cases hz
      · rw [e1] at hy; cases hy
  · obtain ⟨p, h1, h2⟩ := I.slots t
    refine ⟨p, ?_, ?_⟩
    · intro k u' hk hd'
      rw [hS', ← h1 k u' hk hd']
      constructor
      · rintro (x | x)
        · exact x
        · subst x; rw [hu] at hk; injection hk with hk; subst hk; exact absurd hd' e
      · exact .inl
    · intro y z hy hz
      refine (h2 y z hy ?_).mono hle
      rw [← hz]
      cases hdst : u.dst with
      | none => rfl
      | some d =>
        simp only [Act.put]
        rw [Array.getElem?_setIfInBounds_ne]
        intro x; apply e; rw [hdst, x]

/-- An operation that lays no block and writes none of the text order's memory. -/
theorem CInv.nextKeep (T : Tr' E C l fr h) (I : CInv E C l fr h M0 w0 d0 S cut M F a w) {S' : Nat → Prop} {i : Nat} {u : AOper} (hu : l[i]? = some u) (hS' : ∀ k, S' k ↔ S k ∨ k = i) (hi : ¬ S i)
    (hsame : (st E C l fr h (i + 1)).2 = (st E C l fr h i).2) (hcut : isW u.ao = true → i < cut) {M' : BMap} {w' : World} {x : AV} {v : Value} (s : Step E.W0 M (st E C l fr h cut).2 w M' (st E C l fr h cut).2 w')
    (hst : (st E C l fr h (i + 1)).1 = putA (st E C l fr h i).1 u.dst x) (hv : VRel M' x v) (hd : ∀ t, u.dst = some t → ∀ k u', l[k]? = some u' → u'.dst = some t → (S k ↔ k < i)) :
    ∃ F', CInv E C l fr h M0 w0 d0 S' cut M' F' (a.put u.dst v) w' := by
  obtain ⟨e1, e2, e3⟩ := ext I.rel I.F1 s
  have back : ∀ b, M' b ≠ none → M b ≠ none := by
    intro b hb hm
    have := s.new b hm hb; omega
  refine ⟨_, ⟨?_, e1, ?_, ?_, ?_, ?_, I.le.trans s.le, ?_, ?_, ?_, I.ghost, I.slotsPut T hu hS' hi s.le hst hv hd, by rw [put_size]; exact I.size, by rw [put_defers]; exact I.defers⟩⟩
  · intro k u' hk hw
    rw [hS', ← I.cutW k u' hk hw]
    constructor
    · rintro (y | y)
      · exact y
      · subst y; rw [hu] at hk; injection hk with hk; subst hk
        exact (I.cutW k u hu hw).2 (hcut hw)
    · exact .inl
  · intro b hb hm; simp only [if_pos hb]
  · intro j u' hj hs hc b h1 h2 hm
    have hji : j ≠ i := by intro e; subst e; rw [hsame] at h2; omega
    have hb : ¬ b < (st E C l fr h cut).2.len := by have := T.lenM hc; omega
    simp only [if_neg hb]
    exact I.F2 j u' hj (by rcases (hS' j).1 hs with y | y; exact y; exact absurd y hji) hc b h1 h2 (back b hm)
  · intro j u' hj hs b h1 h2
    have : M b = none := I.D j u' hj (fun y => hs ((hS' j).2 (.inl y))) b h1 h2
    cases e : M' b with
    | none => rfl
    | some cb => exact absurd this (back b (by rw [e]; simp))
  · intro j u' hj hs hc b h1 h2
    exact I.G j u' hj (fun y => hs ((hS' j).2 (.inl y))) hc b h1 h2
  · intro b h1 h2; exact I.new b h1 (back b h2)
  · refine ⟨Nat.le_trans I.fram.size e2.size, fun k hk hn => ?_⟩
    rw [e2.keep k (by have := I.fram.size; omega) (fun o => by rcases I.own k o with y | y; exact hn y; omega)]
    exact I.fram.keep k hk hn
  · intro k o
    rcases e3 k o with y | y
    · exact I.own k y
    · right; have := I.fram.size; omega

/-- An operation that writes, in its turn. -/
theorem CInv.nextW (T : Tr' E C l fr h) {i : Nat} (I : CInv E C l fr h M0 w0 d0 S i M F a w) {S' : Nat → Prop} {u : AOper} (hu : l[i]? = some u) (hS' : ∀ k, S' k ↔ S k ∨ k = i) (hi : ¬ S i)
    {M' : BMap} {w' : World} {x : AV} {v : Value} (s : Step E.W0 M (st E C l fr h i).2 w M' (st E C l fr h (i + 1)).2 w')
    (hst : (st E C l fr h (i + 1)).1 = putA (st E C l fr h i).1 u.dst x) (hv : VRel M' x v) (hd : ∀ t, u.dst = some t → ∀ k u', l[k]? = some u' → u'.dst = some t → (S k ↔ k < i)) :
    ∃ F', CInv E C l fr h M0 w0 d0 S' (i + 1) M' F' (a.put u.dst v) w' := by
  obtain ⟨e1, e2, e3⟩ := ext I.rel I.F1 s
  have hlen0 : h.len ≤ (st E C l fr h i).2.len := T.lenM (Nat.zero_le i)
  refine ⟨_, ⟨?_, e1, ?_, ?_, ?_, ?_, I.le.trans s.le, ?_, ?_, ?_, ?_, I.slotsPut T hu hS' hi s.le hst hv hd, by rw [put_size]; exact I.size, by rw [put_defers]; exact I.defers⟩⟩
  · intro k u' hk hw
    rw [hS', I.cutW k u' hk hw]; omega
  · intro b hb hm; simp only [if_pos hb]
  · intro j u' hj hs hc b h1 h2 hm
    have hb : ¬ b < (st E C l fr h (i + 1)).2.len := by have := T.lenM hc; omega
    have hm0 : M b ≠ none := by intro e; have := s.new b e hm; omega
    simp only [if_neg hb]
    exact I.F2 j u' hj (by rcases (hS' j).1 hs with y | y; exact y; omega) (by omega) b h1 h2 hm0
  · intro j u' hj hs b h1 h2
    have hm : M b = none := I.D j u' hj (fun y => hs ((hS' j).2 (.inl y))) b h1 h2
    cases e : M' b with
    | none => rfl
    | some cb =>
      have hr := s.new b hm (by rw [e]; simp)
      have := T.disj h1 h2 hr.1 hr.2
      exact absurd ((hS' j).2 (.inr this)) hs
  · intro j u' hj hs hc b h1 h2
    have hji : j ≠ i := fun e => hs ((hS' j).2 (.inr e))
    have hsj : ¬ S j := fun y => hs ((hS' j).2 (.inl y))
    rw [s.ghost b (Nat.lt_of_lt_of_le h2 (T.lenM (by omega))) (I.D j u' hj hsj b h1 h2)]
    exact I.G j u' hj hsj (by omega) b h1 h2
  · intro b h1 h2
    by_cases e : M b = none
    · have := s.new b e h2
      have := T.lenM (show i + 1 ≤ l.length from lt_of_get hu)
      omega
    · exact I.new b h1 e
  · refine ⟨Nat.le_trans I.fram.size e2.size, fun k hk hn => ?_⟩
    rw [e2.keep k (by have := I.fram.size; omega) (fun o => by rcases I.own k o with y | y; exact hn y; omega)]
    exact I.fram.keep k hk hn
  · intro k o
    rcases e3 k o with y | y
    · exact I.own k y
    · right; have := I.fram.size; omega
  · intro b hb hm
    have hm' : M b = none := by
      cases e : M b with
      | none => rfl
      | some cb => have := (I.new b hm (by rw [e]; simp)).1; omega
    rw [s.ghost b (by omega) hm']
    exact I.ghost b hb hm

/-- An operation that lays a block, out of its turn. -/
theorem CInv.nextA (T : Tr' E C l fr h) (I : CInv E C l fr h M0 w0 d0 S cut M F a w) {S' : Nat → Prop} {i : Nat} {u : AOper} (hu : l[i]? = some u) (hS' : ∀ k, S' k ↔ S k ∨ k = i) (hi : ¬ S i) (hnw : isW u.ao = false)
    {k0 : AB} (hpush : (st E C l fr h (i + 1)).2 = (st E C l fr h i).2.push k0) {s : Sem Next} {x : AV} {cb : CB} {nx : Next} {v : Value} {w' : World} (A : AnsN E M F w (st E C l fr h i).2.len k0 s x cb nx v w')
    (hst : (st E C l fr h (i + 1)).1 = putA (st E C l fr h i).1 u.dst x) (hd : ∀ t, u.dst = some t → ∀ k u', l[k]? = some u' → u'.dst = some t → (S k ↔ k < i)) :
    ∃ M' F', CInv E C l fr h M0 w0 d0 S' cut M' F' (a.put u.dst v) w' := by
  have hlen : (st E C l fr h (i + 1)).2.len = (st E C l fr h i).2.len + 1 := by rw [hpush]; rfl
  have hget : (st E C l fr h (i + 1)).2.get (st E C l fr h i).2.len = some k0 := by rw [hpush, Sx.H.get_push, if_pos rfl]
  have hlen0 : h.len ≤ (st E C l fr h i).2.len := T.lenM (Nat.zero_le i)
  refine ⟨_, _, ⟨?_, A.rel, ?_, ?_, ?_, ?_, I.le.trans A.le, ?_, ?_, ?_, I.ghost, I.slotsPut T hu hS' hi A.le hst A.val hd, by rw [put_size]; exact I.size, by rw [put_defers]; exact I.defers⟩⟩
  · intro k u' hk hw
    rw [hS', ← I.cutW k u' hk hw]
    constructor
    · rintro (y | y)
      · exact y
      · subst y; rw [hu] at hk; injection hk with hk; subst hk; rw [hnw] at hw; cases hw
    · exact .inl
  · intro b hb hm
    simp only [fput]
    by_cases e : b = (st E C l fr h i).2.len
    · rw [if_pos e]
      subst e
      have hic : i < cut := by
        apply Classical.byContradiction
        intro hc
        have := T.lenM (show cut ≤ i by omega); omega
      rw [I.G i u hu hi hic _ (Nat.le_refl _) (by omega), hget]
    · rw [if_neg e]
      simp only [mput, if_neg e] at hm
      exact I.F1 b hb hm
  · intro j u' hj hs hc b h1 h2 hm
    simp only [fput]
    by_cases e : b = (st E C l fr h i).2.len
    · rw [if_pos e]
      subst e
      have := T.disj h1 h2 (Nat.le_refl _) (by omega)
      subst this
      rw [hget]
    · rw [if_neg e]
      simp only [mput, if_neg e] at hm
      have hji : j ≠ i := by intro x; subst x; omega
      exact I.F2 j u' hj (by rcases (hS' j).1 hs with y | y; exact y; exact absurd y hji) hc b h1 h2 hm
  · intro j u' hj hs b h1 h2
    have hji : j ≠ i := fun e => hs ((hS' j).2 (.inr e))
    have e : b ≠ (st E C l fr h i).2.len := by
      intro e; subst e
      exact hji (T.disj h1 h2 (Nat.le_refl _) (by omega))
    simp only [mput, if_neg e]
    exact I.D j u' hj (fun y => hs ((hS' j).2 (.inl y))) b h1 h2
  · intro j u' hj hs hc b h1 h2
    exact I.G j u' hj (fun y => hs ((hS' j).2 (.inl y))) hc b h1 h2
  · intro b h1 h2
    by_cases e : b = (st E C l fr h i).2.len
    · subst e
      have := T.lenM (show i + 1 ≤ l.length from lt_of_get hu)
      omega
    · simp only [mput, if_neg e] at h2
      exact I.new b h1 h2
  · refine ⟨Nat.le_trans I.fram.size A.fram.size, fun k hk hn => ?_⟩
    rw [A.fram.keep k (by have := I.fram.size; omega) (fun o => by rcases I.own k o with y | y; exact hn y; omega)]
    exact I.fram.keep k hk hn
  · intro k o
    rcases A.own k o with y | y
    · exact I.own k y
    · right; have := I.fram.size; omega

/-- All have run. -/
theorem CInv.done (T : Tr' E C l fr h) (I : CInv E C l fr h M0 w0 d0 S cut M F a w) (hall : ∀ k, k < l.length → S k) :
    Step E.W0 M0 h w0 M (st E C l fr h l.length).2 w ∧ LRel M (st E C l fr h l.length).1 a.tmps.toList ∧ a.defers = d0 := by
  have I := I.recut T (cut' := l.length) (fun k u hk hw => by
    have := (I.cutW k u hk hw).1 (hall k (lt_of_get hk))
    have := lt_of_get hk
    omega)
  have hsub := agree_sub I.F1
  refine ⟨⟨T.lenM (Nat.zero_le _), I.le, I.new, I.rel.sub hsub, I.fram, fun b hb hm => I.ghost b hb hm, fun i o => I.own i (Own.sub hsub o)⟩, ⟨?_, ?_⟩, I.defers⟩
  · rw [T.frLen]; simpa using I.size
  · intro t x v hx hv
    refine I.slotAt T (i := l.length) (t := t) (fun k u hk _ => ?_) x v hx (by simpa using hv)
    have := lt_of_get hk
    exact ⟨fun _ => this, fun _ => hall k this⟩
end
end Go.Sx
