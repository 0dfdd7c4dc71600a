/- A region whose order is open: what its run in the text's order tells. -/
import Derived.Test.YtdaicpekdnkafaaGreatDoorSxU
namespace Go.Sx
open Go Go.RowKit
section
variable {E : Env} {C : CallF}

/-! ### Counting the writing operations -/
theorem countW_mono {p q : Nat → Bool} : ∀ {l : List AO} {i : Nat}, (∀ k o, l[k]? = some o → isW o = true → p (i + k) = true → q (i + k) = true) → countW p l i ≤ countW q l i := by
  intro l
  induction l with
  | nil => intro i _; simp [countW]
  | cons o l ih =>
    intro i h
    simp only [countW]
    have h1 := ih (i := i + 1) (fun k o' hk hw hp => by
      have := h (k + 1) o' (by simpa using hk) hw (by rwa [show i + (k + 1) = i + 1 + k by omega])
      rwa [show i + (k + 1) = i + 1 + k by omega] at this)
    have h2 := h 0 o rfl
    simp only [Nat.add_zero] at h2
    cases hw : isW o <;> cases hp : p i <;> cases hq : q i <;> simp_all <;> omega

def wc (l : List AO) (m : Nat) : Nat := countW (fun k => decide (k < m)) l 0

theorem countW_lt_succ : ∀ (l : List AO) (i m : Nat), countW (fun k => decide (k < m + 1)) l i = countW (fun k => decide (k < m)) l i + (if i ≤ m ∧ (l[m - i]?).any isW = true then 1 else 0) := by
  intro l
  induction l with
  | nil => intro i m; simp [countW]
  | cons o l ih =>
    intro i m
    simp only [countW]
    rw [ih (i + 1) m]
    by_cases h1 : i < m
    · have e : m - i = (m - (i + 1)) + 1 := by omega
      rw [e]
      simp only [List.getElem?_cons_succ]
      have d1 : decide (i < m + 1) = true := by simp; omega
      have d2 : decide (i < m) = true := by simp [h1]
      rw [d1, d2]
      have : (i + 1 ≤ m ∧ (l[m - (i + 1)]?).any isW = true) ↔ (i ≤ m ∧ (l[m - (i + 1)]?).any isW = true) := by constructor <;> rintro ⟨a, b⟩ <;> exact ⟨by omega, b⟩
      simp only [this]
      omega
    · by_cases h2 : i = m
      · subst h2
        have d1 : decide (i < i + 1) = true := by simp
        have d2 : decide (i < i) = false := by simp
        rw [d1, d2]
        simp only [Nat.sub_self, List.getElem?_cons_zero, Option.any_some, Nat.le_refl, true_and, Bool.and_true, Bool.and_false, cond_false]
        have : ¬ (i + 1 ≤ i ∧ (l[i - (i + 1)]?).any isW = true) := by omega
        rw [if_neg this]
        cases isW o <;> simp
      · have d1 : decide (i < m + 1) = false := by simp; omega
        have d2 : decide (i < m) = false := by simp; omega
        rw [d1, d2]
        rw [if_neg (by omega), if_neg (by omega)]
        simp

theorem wc_zero (l : List AO) : wc l 0 = 0 := by
  unfold wc
  have : ∀ (l : List AO) (i : Nat), countW (fun k => decide (k < 0)) l i = 0 := by
    intro l
    induction l with
    | nil => intro i; rfl
    | cons o l ih => intro i; simp only [countW, ih]; simp
  exact this l 0
theorem wc_succ (l : List AO) (m : Nat) : wc l (m + 1) = wc l m + (if (l[m]?).any isW = true then 1 else 0) := by
  unfold wc
  rw [countW_lt_succ l 0 m]
  simp
theorem wc_mono (l : List AO) {p q : Nat} (h : p ≤ q) : wc l p ≤ wc l q := by
  induction q with
  | zero => have : p = 0 := by omega
            subst this; exact Nat.le_refl _
  | succ q ih =>
    by_cases e : p = q + 1
    · subst e; exact Nat.le_refl _
    · have := ih (by omega); rw [wc_succ]; omega
/-- Where the count stays there is none that writes. -/
theorem wc_none {l : List AO} {p q k : Nat} (h : wc l p = wc l q) (h1 : p ≤ k) (h2 : k < q) : (l[k]?).any isW = false := by
  cases e : (l[k]?).any isW with
  | false => rfl
  | true =>
    have a := wc_succ l k
    rw [if_pos e] at a
    have b := wc_mono l h1
    have c := wc_mono l (show k + 1 ≤ q by omega)
    omega

/-! ### The same value -/
theorem sameC_eq {u v : Value} (h : sameC u v = true) : u = v := by
  cases u <;> cases v <;> simp [sameC] at h <;> simp_all
theorem same1_eq {x y : AV} (h : same1 x y = true) : x = y := by
  cases x <;> cases y <;> simp [same1] at h
  · rw [sameC_eq h]
  · simp_all
  · simp_all
  · rw [h]
theorem sameL_eq : ∀ {l k : List AV}, sameL l k = true → l = k := by
  intro l
  induction l with
  | nil => intro k h; cases k <;> simp [sameL] at h; rfl
  | cons x l ih =>
    intro k h
    cases k with
    | nil => simp [sameL] at h
    | cons y k => simp [sameL] at h; rw [same1_eq h.1, ih h.2]
theorem same_eq {x y : AV} (h : same x y = true) : x = y := by
  unfold same at h
  split at h
  · rw [sameL_eq h]
  · rw [sameL_eq h]
  · simp at h; rw [h.1, same1_eq h.2]
  · exact same1_eq h

theorem okAt_eq {ao : AO} {xs : List AV} {v : AV} {h : H} (hk : okAt E ao xs v h = true) : lstep E ao xs h.get = some v := by
  unfold okAt at hk
  cases hl : lstep E ao xs h.get with
  | none => rw [hl] at hk; cases hk
  | some u => rw [hl] at hk; rw [same_eq hk]

/-! ### The trace -/
def stepT (E : Env) (C : CallF) (o : AOper) (s : Fr × H) : Fr × H × AV :=
  match wantedA o s.1 with
  | true => match astep E C o.ao (o.args.map (aeval s.1)) s.2 with
    | some (v, h') => (putA s.1 o.dst v, h', v)
    | none => (s.1, s.2, .c undef)
  | false => (putA s.1 o.dst (.c undef), s.2, .c undef)

def st (E : Env) (C : CallF) (l : List AOper) (fr : Fr) (h : H) : Nat → Fr × H
  | 0 => (fr, h)
  | k + 1 => match l[k]? with
    | some o => ((stepT E C o (st E C l fr h k)).1, (stepT E C o (st E C l fr h k)).2.1)
    | none => st E C l fr h k

def vl (E : Env) (C : CallF) (l : List AOper) (fr : Fr) (h : H) (k : Nat) : AV :=
  match l[k]? with
  | some o => (stepT E C o (st E C l fr h k)).2.2
  | none => .c undef

def isL (o : AO) : Bool := match o.cls with | .l => true | _ => false

/-- What the run in the text's order has told of the first m operations. -/
structure TInv (E : Env) (C : CallF) (l : List AOper) (fr : Fr) (h : H) (r : Fr × H) (m : Nat) (vs : List H) (ck : List Chk) : Prop where
  run : execD E C (l.drop m) (st E C l fr h m).1 (st E C l fr h m).2 vs ck = some r
  vlen : vs.length = wc (l.map (·.ao)) m
  vst : ∀ i g, vs[i]? = some g → ∃ q, q < m ∧ (((l.map (·.ao))[q]?).any isW) = true ∧ wc (l.map (·.ao)) q + i + 1 = wc (l.map (·.ao)) m ∧ g = (st E C l fr h q).2
  ckp : ∀ i o, i < m → l[i]? = some o → isL o.ao = true → wantedA o (st E C l fr h i).1 = true → (⟨o.ao, o.args.map (aeval (st E C l fr h i).1), vl E C l fr h i, o.hi⟩ : Chk) ∈ ck
  ok : ∀ i o, i < m → l[i]? = some o → wantedA o (st E C l fr h i).1 = true → astep E C o.ao (o.args.map (aeval (st E C l fr h i).1)) (st E C l fr h i).2 = some (vl E C l fr h i, (st E C l fr h (i + 1)).2)
  ver : ∀ i o, i < m → l[i]? = some o → isL o.ao = true → wantedA o (st E C l fr h i).1 = true → ∀ p, p ≤ m → (p = 0 ∨ ((l.map (·.ao))[p - 1]?).any isW = true) →
    o.lo ≤ wc (l.map (·.ao)) p → wc (l.map (·.ao)) p ≤ o.hi → ∃ q, p ≤ q ∧ q ≤ m ∧ wc (l.map (·.ao)) q = wc (l.map (·.ao)) p ∧
      lstep E o.ao (o.args.map (aeval (st E C l fr h i).1)) (st E C l fr h q).2.get = some (vl E C l fr h i)

theorem TInv.zero {l : List AOper} {fr : Fr} {h : H} {r : Fr × H} (hr : execD E C l fr h [] [] = some r) : TInv E C l fr h r 0 [] [] :=
  ⟨by simpa [st] using hr, by simp [wc_zero], by simp, by simp, by simp, by simp⟩

theorem st_succ {l : List AOper} {fr : Fr} {h : H} {k : Nat} {o : AOper} (ho : l[k]? = some o) : st E C l fr h (k + 1) = ((stepT E C o (st E C l fr h k)).1, (stepT E C o (st E C l fr h k)).2.1) := by
  simp [st, ho]
theorem vl_eq {l : List AOper} {fr : Fr} {h : H} {k : Nat} {o : AOper} (ho : l[k]? = some o) : vl E C l fr h k = (stepT E C o (st E C l fr h k)).2.2 := by
  simp [vl, ho]

theorem TInv.succ {l : List AOper} {fr : Fr} {h : H} {r : Fr × H} {m : Nat} {vs : List H} {ck : List Chk} (T : TInv E C l fr h r m vs ck) (hm : m < l.length) : ∃ vs' ck', TInv E C l fr h r (m + 1) vs' ck' := by
  obtain ⟨o, ho⟩ : ∃ o, l[m]? = some o := ⟨l[m], List.getElem?_eq_getElem hm⟩
  have hdrop : l.drop m = o :: l.drop (m + 1) := by
    rw [List.drop_eq_getElem_cons hm]; congr 1
    rw [List.getElem?_eq_getElem hm] at ho; exact Option.some.inj ho
  have hao : (l.map (·.ao))[m]? = some o.ao := by simp [ho]
  have hrun := T.run
  rw [hdrop] at hrun
  have hwc : wc (l.map (·.ao)) (m + 1) = wc (l.map (·.ao)) m + (bif isW o.ao then 1 else 0) := by
    have := wc_succ (l.map (·.ao)) m
    rw [this]
    simp only [hao, Option.any_some]
    cases isW o.ao <;> simp
  -- the old facts, one place on
  have okOld : ∀ i o', i < m + 1 → l[i]? = some o' → wantedA o' (st E C l fr h i).1 = true →
      (i = m → astep E C o'.ao (o'.args.map (aeval (st E C l fr h i).1)) (st E C l fr h i).2 = some (vl E C l fr h i, (st E C l fr h (i + 1)).2)) →
      astep E C o'.ao (o'.args.map (aeval (st E C l fr h i).1)) (st E C l fr h i).2 = some (vl E C l fr h i, (st E C l fr h (i + 1)).2) := by
    intro i o' hi ho' hw hn
    by_cases e : i = m
    · exact hn e
    · exact T.ok i o' (by omega) ho' hw
  -- a read that was, asked at places up to m + 1, where m does not write
  have verOld : isW o.ao = false → ∀ i o', i < m → l[i]? = some o' → isL o'.ao = true → wantedA o' (st E C l fr h i).1 = true → ∀ p, p ≤ m + 1 → (p = 0 ∨ ((l.map (·.ao))[p - 1]?).any isW = true) →
      o'.lo ≤ wc (l.map (·.ao)) p → wc (l.map (·.ao)) p ≤ o'.hi → ∃ q, p ≤ q ∧ q ≤ m + 1 ∧ wc (l.map (·.ao)) q = wc (l.map (·.ao)) p ∧
      lstep E o'.ao (o'.args.map (aeval (st E C l fr h i).1)) (st E C l fr h q).2.get = some (vl E C l fr h i) := by
    intro hw i o' hi ho' hl hw' p hp hpw h1 h2
    have hpm : p ≤ m := by
      rcases hpw with e | e
      · omega
      · by_cases e2 : p = m + 1
        · subst e2; simp only [Nat.add_sub_cancel, hao, Option.any_some, hw] at e; cases e
        · omega
    obtain ⟨q, a, b, c, d⟩ := T.ver i o' hi ho' hl hw' p hpm hpw h1 h2
    exact ⟨q, a, by omega, c, d⟩
  have vstOld : isW o.ao = false → ∀ i g, vs[i]? = some g → ∃ q, q < m + 1 ∧ (((l.map (·.ao))[q]?).any isW) = true ∧ wc (l.map (·.ao)) q + i + 1 = wc (l.map (·.ao)) (m + 1) ∧ g = (st E C l fr h q).2 := by
    intro hw i g hg
    obtain ⟨q, a, b, c, d⟩ := T.vst i g hg
    exact ⟨q, by omega, b, by rw [hwc, hw]; simpa using c, d⟩
  have vstNew : isW o.ao = true → ∀ i g, ((st E C l fr h m).2 :: vs)[i]? = some g → ∃ q, q < m + 1 ∧ (((l.map (·.ao))[q]?).any isW) = true ∧ wc (l.map (·.ao)) q + i + 1 = wc (l.map (·.ao)) (m + 1) ∧ g = (st E C l fr h q).2 := by
    intro hw i g hg
    cases i with
    | zero =>
      simp at hg
      exact ⟨m, by omega, by simp [hao, hw], by rw [hwc, hw]; simp, hg.symm⟩
    | succ i =>
      obtain ⟨q, a, b, c, d⟩ := T.vst i g (by simpa using hg)
      exact ⟨q, by omega, b, by rw [hwc, hw]; simp; omega, d⟩
  -- where m writes: the reads that were are asked behind it
  have verNew : isW o.ao = true → ∀ (hh : H), (st E C l fr h (m + 1)).2 = hh → (ck.all fun k => k.hi.ble vs.length || okAt E k.ao k.xs k.v hh) = true →
      ∀ i o', i < m → l[i]? = some o' → isL o'.ao = true → wantedA o' (st E C l fr h i).1 = true → ∀ p, p ≤ m + 1 → (p = 0 ∨ ((l.map (·.ao))[p - 1]?).any isW = true) →
      o'.lo ≤ wc (l.map (·.ao)) p → wc (l.map (·.ao)) p ≤ o'.hi → ∃ q, p ≤ q ∧ q ≤ m + 1 ∧ wc (l.map (·.ao)) q = wc (l.map (·.ao)) p ∧
      lstep E o'.ao (o'.args.map (aeval (st E C l fr h i).1)) (st E C l fr h q).2.get = some (vl E C l fr h i) := by
    intro hw hh hhe hck i o' hi ho' hl hw' p hp hpw h1 h2
    by_cases e : p = m + 1
    · subst e
      have hmem := T.ckp i o' hi ho' hl hw'
      have := List.all_eq_true.1 hck _ hmem
      simp only [Bool.or_eq_true] at this
      rcases this with x | x
      · have := Nat.le_of_ble_eq_true x
        rw [T.vlen] at this
        rw [hwc, hw] at h2
        simp at h2; omega
      · exact ⟨m + 1, Nat.le_refl _, Nat.le_refl _, rfl, by rw [hhe]; exact okAt_eq x⟩
    · obtain ⟨q, a, b, c, d⟩ := T.ver i o' hi ho' hl hw' p (by omega) hpw h1 h2
      exact ⟨q, a, by omega, c, d⟩
  have ckOld : ∀ ck' : List Chk, (∀ k ∈ ck, k ∈ ck') → (isL o.ao = true → wantedA o (st E C l fr h m).1 = true → (⟨o.ao, o.args.map (aeval (st E C l fr h m).1), vl E C l fr h m, o.hi⟩ : Chk) ∈ ck') →
      ∀ i o', i < m + 1 → l[i]? = some o' → isL o'.ao = true → wantedA o' (st E C l fr h i).1 = true → (⟨o'.ao, o'.args.map (aeval (st E C l fr h i).1), vl E C l fr h i, o'.hi⟩ : Chk) ∈ ck' := by
    intro ck' hsub hnew i o' hi ho' hl hw'
    by_cases e : i = m
    · subst e; rw [ho] at ho'; injection ho' with ho'; subst ho'; exact hnew hl hw'
    · exact hsub _ (T.ckp i o' (by omega) ho' hl hw')
  have verAll : ∀ (hv : ∀ i o', i < m → l[i]? = some o' → isL o'.ao = true → wantedA o' (st E C l fr h i).1 = true → ∀ p, p ≤ m + 1 → (p = 0 ∨ ((l.map (·.ao))[p - 1]?).any isW = true) →
      o'.lo ≤ wc (l.map (·.ao)) p → wc (l.map (·.ao)) p ≤ o'.hi → ∃ q, p ≤ q ∧ q ≤ m + 1 ∧ wc (l.map (·.ao)) q = wc (l.map (·.ao)) p ∧
      lstep E o'.ao (o'.args.map (aeval (st E C l fr h i).1)) (st E C l fr h q).2.get = some (vl E C l fr h i)), (isL o.ao = false ∨ wantedA o (st E C l fr h m).1 = false) →
      ∀ i o', i < m + 1 → l[i]? = some o' → isL o'.ao = true → wantedA o' (st E C l fr h i).1 = true → ∀ p, p ≤ m + 1 → (p = 0 ∨ ((l.map (·.ao))[p - 1]?).any isW = true) →
      o'.lo ≤ wc (l.map (·.ao)) p → wc (l.map (·.ao)) p ≤ o'.hi → ∃ q, p ≤ q ∧ q ≤ m + 1 ∧ wc (l.map (·.ao)) q = wc (l.map (·.ao)) p ∧
      lstep E o'.ao (o'.args.map (aeval (st E C l fr h i).1)) (st E C l fr h q).2.get = some (vl E C l fr h i) := by
    intro hv hno i o' hi ho' hl hw' p hp hpw h1 h2
    by_cases e : i = m
    · subst e; rw [ho] at ho'; injection ho' with ho'; subst ho'
      rcases hno with x | x
      · rw [hl] at x; cases x
      · rw [hw'] at x; cases x
    · exact hv i o' (by omega) ho' hl hw' p hp hpw h1 h2
  cases hw : wantedA o (st E C l fr h m).1 with
  | false =>
    have hst : st E C l fr h (m + 1) = (putA (st E C l fr h m).1 o.dst (.c undef), (st E C l fr h m).2) := by
      rw [st_succ ho]; simp [stepT, hw]
    simp only [execD, hw] at hrun
    have okAll : ∀ i o', i < m + 1 → l[i]? = some o' → wantedA o' (st E C l fr h i).1 = true → astep E C o'.ao (o'.args.map (aeval (st E C l fr h i).1)) (st E C l fr h i).2 = some (vl E C l fr h i, (st E C l fr h (i + 1)).2) :=
      fun i o' hi ho' hw' => okOld i o' hi ho' hw' (fun e => by subst e; rw [ho] at ho'; injection ho' with ho'; subst ho'; rw [hw] at hw'; cases hw')
    cases hcls : o.ao.cls
    case w =>
      rw [hcls] at hrun
      have hisw : isW o.ao = true := by simp [isW, hcls]
      cases hb : (ck.all fun k => k.hi.ble vs.length || okAt E k.ao k.xs k.v (st E C l fr h m).2) with
      | false => rw [hb] at hrun; cases hrun
      | true =>
        rw [hb, cond_true] at hrun
        refine ⟨(st E C l fr h m).2 :: vs, ck, ⟨by rw [hst]; exact hrun, by rw [hwc, hisw]; simp [T.vlen], vstNew hisw, ckOld ck (fun _ x => x) (fun _ y => by rw [hw] at y; cases y), okAll, verAll (verNew hisw _ (by rw [hst]) hb) (.inr hw)⟩⟩
    all_goals
      rw [hcls] at hrun
      have hisw : isW o.ao = false := by simp [isW, hcls]
      exact ⟨vs, ck, ⟨by rw [hst]; exact hrun, by rw [hwc, hisw]; simpa using T.vlen, vstOld hisw, ckOld ck (fun _ x => x) (fun _ y => by rw [hw] at y; cases y), okAll, verAll (verOld hisw) (.inr hw)⟩⟩
  | true =>
    simp only [execD, hw] at hrun
    cases ha : astep E C o.ao (o.args.map (aeval (st E C l fr h m).1)) (st E C l fr h m).2 with
    | none => rw [ha] at hrun; cases hrun
    | some pr =>
      obtain ⟨v, h'⟩ := pr
      rw [ha] at hrun
      have hst : st E C l fr h (m + 1) = (putA (st E C l fr h m).1 o.dst v, h') := by
        rw [st_succ ho]; simp [stepT, hw, ha]
      have hvl : vl E C l fr h m = v := by rw [vl_eq ho]; simp [stepT, hw, ha]
      have okAll : ∀ i o', i < m + 1 → l[i]? = some o' → wantedA o' (st E C l fr h i).1 = true → astep E C o'.ao (o'.args.map (aeval (st E C l fr h i).1)) (st E C l fr h i).2 = some (vl E C l fr h i, (st E C l fr h (i + 1)).2) :=
        fun i o' hi ho' hw' => okOld i o' hi ho' hw' (fun e => by subst e; rw [ho] at ho'; injection ho' with ho'; subst ho'; rw [ha, hvl, hst])
      cases hcls : o.ao.cls
      case w =>
        simp only [hcls] at hrun
        have hisw : isW o.ao = true := by simp [isW, hcls]
        have hnl : isL o.ao = false := by simp [isL, hcls]
        cases hb : (ck.all fun k => k.hi.ble vs.length || okAt E k.ao k.xs k.v h') with
        | false => rw [hb] at hrun; cases hrun
        | true =>
          rw [hb, cond_true] at hrun
          exact ⟨(st E C l fr h m).2 :: vs, ck, ⟨by rw [hst]; exact hrun, by rw [hwc, hisw]; simp [T.vlen], vstNew hisw, ckOld ck (fun _ x => x) (fun y _ => by rw [hnl] at y; cases y), okAll, verAll (verNew hisw _ (by rw [hst]) hb) (.inl hnl)⟩⟩
      case l =>
        simp only [hcls] at hrun
        have hisw : isW o.ao = false := by simp [isW, hcls]
        cases hb : (vs.take (vs.length - o.lo)).all (okAt E o.ao (o.args.map (aeval (st E C l fr h m).1)) v) with
        | false => rw [hb] at hrun; cases hrun
        | true =>
          rw [hb, cond_true] at hrun
          have hls : lstep E o.ao (o.args.map (aeval (st E C l fr h m).1)) (st E C l fr h m).2.get = some v := by
            simp only [astep, hcls, Option.map_eq_some_iff, Prod.mk.injEq] at ha
            obtain ⟨u, a, rfl, _⟩ := ha; exact a
          refine ⟨vs, _, ⟨by rw [hst]; exact hrun, by rw [hwc, hisw]; simpa using T.vlen, vstOld hisw, ckOld _ (fun _ x => List.mem_cons_of_mem _ x) (fun _ _ => by rw [hvl]; exact List.mem_cons_self), okAll, ?_⟩⟩
          intro i o' hi ho' hl hw' p hp hpw h1 h2
          by_cases e : i = m
          · subst e; rw [ho] at ho'; injection ho' with ho'; subst ho'
            have hpm : p ≤ i := by
              rcases hpw with e | e
              · omega
              · by_cases e2 : p = i + 1
                · subst e2; simp only [Nat.add_sub_cancel, hao, Option.any_some, hisw] at e; cases e
                · omega
            rw [hvl]
            by_cases hc : wc (l.map (·.ao)) p = wc (l.map (·.ao)) i
            · exact ⟨i, hpm, by omega, hc.symm, hls⟩
            · have hlt : wc (l.map (·.ao)) p < wc (l.map (·.ao)) i := by have := wc_mono (l.map (·.ao)) hpm; omega
              have hr : wc (l.map (·.ao)) i - 1 - wc (l.map (·.ao)) p < vs.length - o.lo := by rw [T.vlen]; omega
              have hr' : wc (l.map (·.ao)) i - 1 - wc (l.map (·.ao)) p < vs.length := by omega
              obtain ⟨q, q1, q2, q3, q4⟩ := T.vst _ _ (List.getElem?_eq_getElem hr')
              have hq : wc (l.map (·.ao)) q = wc (l.map (·.ao)) p := by omega
              have hmem : vs[wc (l.map (·.ao)) i - 1 - wc (l.map (·.ao)) p] ∈ vs.take (vs.length - o.lo) := by
                rw [List.mem_take_iff_getElem]
                exact ⟨_, by omega, rfl⟩
              have hok := List.all_eq_true.1 hb _ hmem
              rw [q4] at hok
              have hpq : p ≤ q := by
                rcases Nat.lt_or_ge q p with x | x
                · exfalso
                  have e1 := wc_succ (l.map (·.ao)) q
                  rw [if_pos q2] at e1
                  have e2 := wc_mono (l.map (·.ao)) (show q + 1 ≤ p by omega)
                  omega
                · exact x
              exact ⟨q, hpq, by omega, hq, okAt_eq hok⟩
          · exact verOld hisw i o' (by omega) ho' hl hw' p hp hpw h1 h2
      all_goals
        simp only [hcls] at hrun
        have hisw : isW o.ao = false := by simp [isW, hcls]
        have hnl : isL o.ao = false := by simp [isL, hcls]
        exact ⟨vs, ck, ⟨by rw [hst]; exact hrun, by rw [hwc, hisw]; simpa using T.vlen, vstOld hisw, ckOld ck (fun _ x => x) (fun y _ => by rw [hnl] at y; cases y), okAll, verAll (verOld hisw) (.inl hnl)⟩⟩

theorem TInv.all {l : List AOper} {fr : Fr} {h : H} {r : Fr × H} (hr : execD E C l fr h [] [] = some r) : ∃ vs ck, TInv E C l fr h r l.length vs ck := by
  have : ∀ m, m ≤ l.length → ∃ vs ck, TInv E C l fr h r m vs ck := by
    intro m
    induction m with
    | zero => intro _; exact ⟨[], [], TInv.zero hr⟩
    | succ m ih =>
      intro hm
      obtain ⟨vs, ck, T⟩ := ih (by omega)
      exact T.succ (by omega)
  exact this _ (Nat.le_refl _)

theorem TInv.last {l : List AOper} {fr : Fr} {h : H} {r : Fr × H} {vs : List H} {ck : List Chk} (T : TInv E C l fr h r l.length vs ck) : st E C l fr h l.length = r := by
  have := T.run
  rw [List.drop_length] at this
  simp only [execD, Option.some.injEq] at this
  exact this
end
end Go.Sx
