/- The kernel's reading says what the reading says. -/
import Derived.Test.YtdaicpekdnkafaaGreatDoorSyE
namespace Go.Sx
open Go Go.RowKit

def CLe (C C' : CallF) : Prop := ∀ f xs h r, C f xs h = some r → C' f xs h = some r

theorem astep_le {E : Env} {C C' : CallF} (hC : CLe C C') {o : AO} {xs : List AV} {h : H} {r : AV × H} (e : astep E C o xs h = some r) : astep E C' o xs h = some r := by
  unfold astep at e ⊢
  cases hc : o.cls <;> rw [hc] at e <;> try exact e
  simp only at e ⊢
  split at e
  · rename_i f ys hf
    exact hC _ _ _ _ e
  · exact e

def FtRel (n : Nat) (fr : Fr) (ft : Ft) : Prop := n ≤ fr.length ∧ ∀ t, t < n → fr[t]? = some (Ft.get (pth t) ft)

section
variable {n : Nat} {fr : Fr} {ft : Ft}

theorem kO_ev {x : Operand} {y : KO} (h : kO n x = some y) (r : FtRel n fr ft) : y.ev ft = aeval fr x := by
  cases x with
  | tmp t =>
    simp only [kO] at h
    obtain ⟨h1, h2⟩ := bif_true h
    subst h2
    have := r.2 t (blt_iff.1 h1)
    simp only [aeval, List.getD_eq_getElem?_getD, this]
    rfl
  | const v => simp only [kO, Option.some.injEq] at h; subst h; rfl
  | global g => simp only [kO, Option.some.injEq] at h; subst h; rfl
  | func f => simp only [kO, Option.some.injEq] at h; subst h; rfl

theorem kOs_ev : ∀ {l : List Operand} {k : List KO}, kOs n l = some k → FtRel n fr ft → KO.evs ft k = l.map (aeval fr) := by
  intro l
  induction l with
  | nil => intro k h _; simp only [kOs, Option.some.injEq] at h; subst h; rfl
  | cons x l ih =>
    intro k h r
    simp only [kOs] at h
    split at h <;> first | (cases h; done) | skip
    rename_i y k' hy hk
    injection h with h; subst h
    show y.ev ft :: KO.evs ft k' = _
    rw [kO_ev hy r, ih hk r]; rfl

theorem kD_put {d : Option Nat} {d' : Option (List Bool)} (h : kD n d = some d') (r : FtRel n fr ft) (v : AV) : FtRel n (putA fr d v) (putK d' v ft) := by
  cases d with
  | none => simp only [kD, Option.some.injEq] at h; subst h; exact r
  | some d =>
    simp only [kD] at h
    obtain ⟨h1, h2⟩ := bif_true h
    subst h2
    have hd := blt_iff.1 h1
    refine ⟨by simpa [putA] using r.1, fun t ht => ?_⟩
    show (fr.set d v)[t]? = some (Ft.get (pth t) (Ft.set v (pth d) ft))
    rw [Ft.get_set, List.getElem?_set]
    by_cases e : d = t
    · subst e
      rw [if_pos rfl, if_pos rfl, if_pos (Nat.lt_of_lt_of_le ht r.1)]
    · rw [if_neg e, if_neg (fun x => e (pth_inj x).symm)]
      exact r.2 t ht

theorem isB_eq (b : Bool) (x : AV) : isB b x = match x with
    | .c (.bool c) => c == b
    | _ => false := by
  unfold isB
  split
  · rename_i c
    cases b <;> cases c <;> rfl
  · rename_i h
    split
    · rename_i c; exact absurd rfl (h c)
    · rfl

theorem kG_wanted {o : AOper} {g : Option (List Bool × Bool)} (h : kG n o.guard = some g) (r : FtRel n fr ft) : wantedK g ft = wantedA o fr := by
  unfold wantedA
  cases hg : o.guard with
  | none => rw [hg] at h; simp only [kG, Option.some.injEq] at h; subst h; rfl
  | some p =>
    obtain ⟨t, b⟩ := p
    rw [hg] at h
    simp only [kG] at h
    obtain ⟨h1, h2⟩ := bif_true h
    subst h2
    show isB b (Ft.get (pth t) ft) = _
    simp only
    rw [r.2 t (blt_iff.1 h1), isB_eq]
    generalize Ft.get (pth t) ft = x
    cases x <;> try rfl
    rename_i v
    cases v <;> rfl

theorem kOp_inv {o : AOper} {k : KOp} (h : kOp n o = some k) : kD n o.dst = some k.dst ∧ kOs n o.args = some k.args ∧ kG n o.guard = some k.guard ∧ k.ao = o.ao ∧ k.lo = o.lo ∧ k.hi = o.hi := by
  unfold kOp at h
  split at h <;> first | (cases h; done) | skip
  rename_i d l g h1 h2 h3
  injection h with h; subst h
  exact ⟨h1, h2, h3, rfl, rfl, rfl⟩

def KRel (n : Nat) (R : KR) (x : Option (AExit × Fr × H)) : Prop := match R with
  | .bad => True
  | .n ft h => ∃ fr, x = some (.normal, fr, h) ∧ FtRel n fr ft
  | .e id ft h => ∃ fr, x = some (.exit id, fr, h) ∧ FtRel n fr ft
  | .r ft h => ∃ fr, x = some (.ret, fr, h) ∧ FtRel n fr ft

variable {E : Env} {C C' : CallF}

theorem opsK_ok (hC : CLe C C') : ∀ {l : List AOper} {k : List KOp}, kOps n l = some k → ∀ (fr : Fr) (ft : Ft) (h : H), FtRel n fr ft → KRel n (opsK E C k ft h) ((execOps E C' l fr h).map fun r => (.normal, r.1, r.2)) := by
  intro l
  induction l with
  | nil =>
    intro k hk fr ft h r
    simp only [kOps, Option.some.injEq] at hk; subst hk
    exact ⟨fr, rfl, r⟩
  | cons o l ih =>
    intro k hk fr ft h r
    simp only [kOps] at hk
    split at hk <;> first | (cases hk; done) | skip
    rename_i y k' hy hk'
    injection hk with hk; subst hk
    obtain ⟨h1, h2, h3, h4, _, _⟩ := kOp_inv hy
    show KRel n (@Bool.rec (fun _ => KR) (opsK E C k' (putK y.dst (.c undef) ft) h)
      (@Option.rec (AV × H) (fun _ => KR) .bad (fun r => @Prod.rec AV H (fun _ => KR) (fun v h' => opsK E C k' (putK y.dst v ft) h') r) (astep E C y.ao (KO.evs ft y.args) h))
      (wantedK y.guard ft)) _
    rw [kG_wanted h3 r, kOs_ev h2 r, h4]
    simp only [execOps]
    cases hw : wantedA o fr with
    | false => exact ih hk' _ _ _ (kD_put h1 r _)
    | true =>
      cases ha : astep E C o.ao (o.args.map (aeval fr)) h with
      | none => trivial
      | some p =>
        obtain ⟨v, h'⟩ := p
        rw [astep_le hC ha]
        exact ih hk' _ _ _ (kD_put h1 r _)

theorem drawK_ok (hC : CLe C C') : ∀ {l : List AOper} {k : List KOp}, kOps n l = some k → ∀ (fr : Fr) (ft : Ft) (h : H) (vs : List H) (ck : List Chk), FtRel n fr ft → KRel n (drawK E C k ft h vs ck) ((execD E C' l fr h vs ck).map fun r => (.normal, r.1, r.2)) := by
  intro l
  induction l with
  | nil =>
    intro k hk fr ft h vs ck r
    simp only [kOps, Option.some.injEq] at hk; subst hk
    exact ⟨fr, rfl, r⟩
  | cons o l ih =>
    intro k hk fr ft h vs ck r
    simp only [kOps] at hk
    split at hk <;> first | (cases hk; done) | skip
    rename_i y k' hy hk'
    injection hk with hk; subst hk
    obtain ⟨h1, h2, h3, h4, h5, h6⟩ := kOp_inv hy
    show KRel n (@Bool.rec (fun _ => KR)
      (@Cls.rec (fun _ => KR) (drawK E C k' (putK y.dst (.c undef) ft) h vs ck) (drawK E C k' (putK y.dst (.c undef) ft) h vs ck) (drawK E C k' (putK y.dst (.c undef) ft) h vs ck)
        (@Bool.rec (fun _ => KR) .bad (drawK E C k' (putK y.dst (.c undef) ft) h (h :: vs) ck) (ck.all fun k => k.hi.ble vs.length || okAt E k.ao k.xs k.v h)) y.ao.cls)
      (@Option.rec (AV × H) (fun _ => KR) .bad (fun r => @Prod.rec AV H (fun _ => KR) (fun v h' =>
        @Cls.rec (fun _ => KR) (drawK E C k' (putK y.dst v ft) h' vs ck)
          (@Bool.rec (fun _ => KR) .bad (drawK E C k' (putK y.dst v ft) h' vs (⟨y.ao, KO.evs ft y.args, v, y.hi⟩ :: ck)) ((vs.take (vs.length - y.lo)).all (okAt E y.ao (KO.evs ft y.args) v)))
          (drawK E C k' (putK y.dst v ft) h' vs ck)
          (@Bool.rec (fun _ => KR) .bad (drawK E C k' (putK y.dst v ft) h' (h :: vs) ck) (ck.all fun k => k.hi.ble vs.length || okAt E k.ao k.xs k.v h')) y.ao.cls) r)
        (astep E C y.ao (KO.evs ft y.args) h))
      (wantedK y.guard ft)) _
    rw [kG_wanted h3 r, kOs_ev h2 r, h4, h5, h6]
    simp only [execD]
    have put := fun v => kD_put h1 r v
    cases hw : wantedA o fr with
    | false =>
      cases hc : o.ao.cls
      case w =>
        cases hb : (ck.all fun k => k.hi.ble vs.length || okAt E k.ao k.xs k.v h) with
        | false => trivial
        | true => exact ih hk' _ _ _ _ _ (put _)
      all_goals exact ih hk' _ _ _ _ _ (put _)
    | true =>
      cases ha : astep E C o.ao (o.args.map (aeval fr)) h with
      | none => trivial
      | some p =>
        obtain ⟨v, h'⟩ := p
        rw [astep_le hC ha]
        cases hc : o.ao.cls
        case l =>
          simp only
          cases hb : (vs.take (vs.length - o.lo)).all (okAt E o.ao (o.args.map (aeval fr)) v) with
          | false => trivial
          | true => exact ih hk' _ _ _ _ _ (put _)
        case w =>
          simp only
          cases hb : (ck.all fun k => k.hi.ble vs.length || okAt E k.ao k.xs k.v h') with
          | false => trivial
          | true => exact ih hk' _ _ _ _ _ (put _)
        all_goals exact ih hk' _ _ _ _ _ (put _)

theorem iterK_ok {f : Ft → H → KR} {g : Fr → H → Option (AExit × Fr × H)} (hf : ∀ fr ft h, FtRel n fr ft → KRel n (f ft h) (g fr h)) : ∀ (m : Nat) (fr : Fr) (ft : Ft) (h : H), FtRel n fr ft → KRel n (iterK f m ft h) (iter g m fr h) := by
  intro m
  induction m with
  | zero => intro fr ft h r; trivial
  | succ m ih =>
    intro fr ft h r
    show KRel n (@KR.rec (fun _ => KR) .bad (fun ft h => iterK f m ft h) (fun id ft h => .e id ft h) (fun ft h => .r ft h) (f ft h)) _
    simp only [iter]
    have := hf fr ft h r
    cases hr : f ft h with
    | bad => trivial
    | n ft' h' =>
      rw [hr] at this
      obtain ⟨fr', e, r'⟩ := this
      rw [e]
      exact ih fr' ft' h' r'
    | e id ft' h' =>
      rw [hr] at this
      obtain ⟨fr', e, r'⟩ := this
      rw [e]
      exact ⟨fr', rfl, r'⟩
    | r ft' h' =>
      rw [hr] at this
      obtain ⟨fr', e, r'⟩ := this
      rw [e]
      exact ⟨fr', rfl, r'⟩

theorem asB_eq {x : AV} {b : Bool} (h : asB x = some b) : x = .c (.bool b) := by
  unfold asB at h
  split at h
  · injection h with h; rw [h]
  · cases h

theorem execK_ok (hC : CLe C C') (m : Nat) : ∀ (c : AC) (fr : Fr) (ft : Ft) (h : H), FtRel n fr ft → KRel n (execK E C m (kC n c) ft h) (exec E C' m c fr h) := by
  intro c
  induction c with
  | skip => intro fr ft h r; exact ⟨fr, rfl, r⟩
  | exit id => intro fr ft h r; exact ⟨fr, rfl, r⟩
  | ret => intro fr ft h r; exact ⟨fr, rfl, r⟩
  | fail => intro fr ft h r; trivial
  | reg ops d =>
    intro fr ft h r
    simp only [kC, exec]
    cases hk : kOps n ops with
    | none => trivial
    | some k =>
      cases d with
      | false =>
        show KRel n (opsK E C k ft h) _
        have := opsK_ok (E := E) hC hk fr ft h r
        simp only [cond_false]
        cases hh : execOps E C' ops fr h with
        | none => rw [hh] at this; exact this
        | some p => rw [hh] at this; exact this
      | true =>
        show KRel n (drawK E C k ft h [] []) _
        have := drawK_ok (E := E) hC hk fr ft h [] [] r
        simp only [cond_true]
        cases hh : execD E C' ops fr h [] [] with
        | none => rw [hh] at this; exact this
        | some p => rw [hh] at this; exact this
  | seq a b iha ihb =>
    intro fr ft h r
    show KRel n (@KR.rec (fun _ => KR) .bad (fun ft h => execK E C m (kC n b) ft h) (fun id ft h => .e id ft h) (fun ft h => .r ft h) (execK E C m (kC n a) ft h)) _
    have := iha fr ft h r
    simp only [exec]
    cases hr : execK E C m (kC n a) ft h with
    | bad => trivial
    | n ft' h' =>
      rw [hr] at this
      obtain ⟨fr', e, r'⟩ := this
      rw [e]
      exact ihb fr' ft' h' r'
    | e id ft' h' =>
      rw [hr] at this
      obtain ⟨fr', e, r'⟩ := this
      rw [e]
      exact ⟨fr', rfl, r'⟩
    | r ft' h' =>
      rw [hr] at this
      obtain ⟨fr', e, r'⟩ := this
      rw [e]
      exact ⟨fr', rfl, r'⟩
  | cond x a b iha ihb =>
    intro fr ft h r
    simp only [kC]
    cases hk : kO n x with
    | none => trivial
    | some y =>
      show KRel n (@Option.rec Bool (fun _ => KR) .bad (fun t => @Bool.rec (fun _ => KR) (execK E C m (kC n b) ft h) (execK E C m (kC n a) ft h) t) (asB (y.ev ft))) _
      simp only [exec]
      rw [kO_ev hk r]
      cases ha : asB (aeval fr x) with
      | none => trivial
      | some t =>
        rw [asB_eq ha]
        cases t
        · exact ihb fr ft h r
        · exact iha fr ft h r
  | block id b ih =>
    intro fr ft h r
    show KRel n (@KR.rec (fun _ => KR) .bad (fun ft h => .n ft h) (fun k ft h => @Bool.rec (fun _ => KR) (.e k ft h) (.n ft h) (k.beq id)) (fun ft h => .r ft h) (execK E C m (kC n b) ft h)) _
    have := ih fr ft h r
    simp only [exec]
    cases hr : execK E C m (kC n b) ft h with
    | bad => trivial
    | n ft' h' =>
      rw [hr] at this
      obtain ⟨fr', e, r'⟩ := this
      rw [e]
      exact ⟨fr', rfl, r'⟩
    | e k ft' h' =>
      rw [hr] at this
      obtain ⟨fr', e, r'⟩ := this
      rw [e]
      show KRel n (@Bool.rec (fun _ => KR) (.e k ft' h') (.n ft' h') (k.beq id)) (bif k.beq id then some (.normal, fr', h') else some (.exit k, fr', h'))
      cases hk : k.beq id
      · exact ⟨fr', rfl, r'⟩
      · exact ⟨fr', rfl, r'⟩
    | r ft' h' =>
      rw [hr] at this
      obtain ⟨fr', e, r'⟩ := this
      rw [e]
      exact ⟨fr', rfl, r'⟩
  | loop b ih =>
    intro fr ft h r
    exact iterK_ok (fun fr ft h r => ih fr ft h r) m fr ft h r

theorem ftOf_rel : ∀ (l : List AV) (i : Nat) (ft : Ft) (t : Nat), Ft.get (pth t) (ftOf l i ft) = if i ≤ t ∧ t < i + l.length then l.getD (t - i) (.c undef) else Ft.get (pth t) ft := by
  intro l
  induction l with
  | nil => intro i ft t; rw [if_neg (by simp only [List.length_nil]; omega)]; rfl
  | cons x l ih =>
    intro i ft t
    show Ft.get (pth t) (ftOf l (i + 1) (Ft.set x (pth i) ft)) = _
    rw [ih, Ft.get_set]
    simp only [List.length_cons]
    by_cases e : t = i
    · subst e
      rw [if_neg (by omega), if_pos rfl, if_pos (by omega)]
      simp
    · rw [if_neg (fun x => e (pth_inj x))]
      by_cases h1 : i + 1 ≤ t ∧ t < i + 1 + l.length
      · rw [if_pos h1, if_pos (by omega)]
        rw [show t - i = (t - (i + 1)) + 1 by omega]
        simp
      · rw [if_neg h1, if_neg (by omega)]

theorem ftRel_start (n : Nat) (xs : List AV) : FtRel n (xs ++ List.replicate (n - xs.length) (.c undef)) (ftOf xs 0 .nil) := by
  refine ⟨by simp; omega, fun t ht => ?_⟩
  rw [ftOf_rel]
  by_cases h : t < xs.length
  · rw [if_pos (by omega), List.getElem?_append_left h]
    simp [h]
  · rw [if_neg (by omega), List.getElem?_append_right (by omega), List.getElem?_replicate, if_pos (by omega)]
    simp

theorem resultK_ok : ∀ {rs : List RV} {ks : List KV} {vs : List AV} {fr : Fr} {ft : Ft} {h : H}, kV n rs = some ks → FtRel n fr ft → resultK E ft h ks = some vs → resultL E fr h rs = some vs := by
  intro rs
  induction rs with
  | nil => intro ks vs fr ft h hk r e; simp only [kV, Option.some.injEq] at hk; subst hk; exact e
  | cons v rs ih =>
    intro ks vs fr ft h hk r e
    cases v with
    | tmp t =>
      simp only [kV] at hk
      split at hk <;> first | (cases hk; done) | skip
      rename_i k hk'
      obtain ⟨h1, h2⟩ := bif_true hk
      subst h2
      simp only [resultK] at e
      split at e <;> first | (cases e; done) | skip
      rename_i vs' hv
      injection e with e; subst e
      simp only [resultL, result1, ih hk' r hv, r.2 t (blt_iff.1 h1)]
    | cell t agg m =>
      simp only [kV] at hk
      split at hk <;> first | (cases hk; done) | skip
      rename_i k hk'
      obtain ⟨h1, h2⟩ := bif_true hk
      subst h2
      simp only [resultK] at e
      have hg : fr.getD t (.c undef) = Ft.get (pth t) ft := by rw [List.getD_eq_getElem?_getD, r.2 t (blt_iff.1 h1)]; rfl
      split at e <;> first | (cases e; done) | skip
      rename_i cs vs' hc hv
      simp only [resultL, result1, ih hk' r hv, hg, hc]
      cases agg with
      | true => simpa using e
      | false =>
        simp only [cond_false] at e ⊢
        split at e <;> first | (cases e; done) | skip
        simpa using e

theorem runK_ok (hC : CLe C C') {m : Nat} {f : AFn} {g : KFn} (hg : kFn f = some g) {xs : List AV} {h : H} {r : AV × H} (e : runK E C m g xs h = some r) : runFn E C' m f xs h = some r := by
  unfold kFn at hg
  split at hg <;> first | (cases hg; done) | skip
  rename_i rs hrs
  injection hg with hg; subst hg
  have hx := execK_ok (E := E) hC m f.body _ _ h (ftRel_start f.ntmps xs)
  have done : ∀ {ft : Ft} {fr : Fr} {h' : H}, FtRel f.ntmps fr ft → doneK E rs ft h' = some r → (match resultL E fr h' f.results with
      | some [v] => some (v, h')
      | some vs => some (.tup vs, h')
      | none => none) = some r := by
    intro ft fr h' rr e
    unfold doneK at e
    split at e
    · rename_i v hv
      rw [resultK_ok hrs rr hv]; exact e
    · rename_i vs hno hv
      rw [resultK_ok hrs rr hv]
      cases vs with
      | nil => exact e
      | cons v vs =>
        cases vs with
        | nil => exact (hno v rfl).elim
        | cons _ _ => exact e
    · cases e
  change @KR.rec (fun _ => Option (AV × H)) none (fun ft h => doneK E rs ft h) (fun _ _ _ => none) (fun ft h => doneK E rs ft h) (execK E C m (kC f.ntmps f.body) (ftOf xs 0 .nil) h) = some r at e
  unfold runFn
  cases hr : execK E C m (kC f.ntmps f.body) (ftOf xs 0 .nil) h with
  | bad => rw [hr] at e; cases e
  | n ft' h' =>
    rw [hr] at e hx
    obtain ⟨fr', e', r'⟩ := hx
    rw [e']
    exact done r' e
  | e id ft' h' => rw [hr] at e; cases e
  | r ft' h' =>
    rw [hr] at e hx
    obtain ⟨fr', e', r'⟩ := hx
    rw [e']
    exact done r' e

theorem XK_ok {S : FuncId → Option (List AV → H → Option (AV × H))} {F : FuncId → Option AFn} {G : FuncId → Option KFn} (hG : ∀ f g, G f = some g → ∃ a, F f = some a ∧ kFn a = some g) : ∀ n, CLe (XK E S G n) (X E S F n) := by
  intro n
  induction n with
  | zero => intro f xs h r e; cases e
  | succ n ih =>
    intro f xs h r e
    change (match S f with
      | some s => s xs h
      | none => match G f with
        | some g => runK E (XK E S G n) (n + 1) g xs h
        | none => none) = some r at e
    simp only [X]
    cases hs : S f with
    | some s => rw [hs] at e; exact e
    | none =>
      rw [hs] at e
      simp only at e ⊢
      cases hg : G f with
      | none => rw [hg] at e; cases e
      | some g =>
        rw [hg] at e
        obtain ⟨a, ha, hk⟩ := hG f g hg
        rw [ha]
        exact runK_ok ih hk e
end
end Go.Sx
