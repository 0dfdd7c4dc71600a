/- A region whose order is open gives what its text order gives. -/
import Derived.Test.YtdaicpekdnkafaaGreatDoorSxZ
namespace Go.Sx
open Go Go.RowKit
section
variable {E : Env} {C : CallF} {l l0 : List AOper} {fr : Fr} {h : H} {M0 : BMap} {w0 : World} {d0 : List Deferred} {ops : Array Oper}

theorem comp_of_ok {o : Oper} {ao : AO} {args : List Operand} (hc : compOp' E.P o = (ao, args)) {xs : List AV} {h h' : H} {x : AV} (hs : astep E C ao xs h = some (x, h')) : compOp E.P o = some (ao, args) := by
  unfold compOp' at hc
  cases e : compOp E.P o with
  | none =>
    rw [e] at hc
    simp only [Option.getD_none, Prod.mk.injEq] at hc
    obtain ⟨rfl, rfl⟩ := hc
    simp [astep, AO.cls] at hs
    obtain ⟨v, hv, _⟩ := hs
    cases xs <;> simp [pstep] at hv
  | some r => rw [e] at hc; simp at hc; rw [hc]

theorem span_map (b : Array Nat) (aos : List AO) : ∀ (l : List AOper) (i : Nat), (span b aos l i).map (·.ao) = l.map (·.ao) := by
  intro l
  induction l with
  | nil => intro i; rfl
  | cons u l ih => intro i; simp [span, ih]

theorem low_place (l : List AO) : ∀ c, ∃ p, p ≤ l.length ∧ wc l p = wc l c ∧ (p = 0 ∨ ((l[p - 1]?).any isW) = true) := by
  intro c
  induction c with
  | zero => exact ⟨0, Nat.zero_le _, rfl, .inl rfl⟩
  | succ c ih =>
    cases hw : (l[c]?).any isW with
    | true =>
      refine ⟨c + 1, ?_, rfl, .inr (by simpa using hw)⟩
      cases e : l[c]? with
      | none => rw [e] at hw; cases hw
      | some o => exact lt_of_get e
    | false =>
      obtain ⟨p, a, b, d⟩ := ih
      exact ⟨p, a, by rw [wc_succ, hw, b]; simp, d⟩

theorem wc_cut {l : List AOper} {p q : Nat} (hpq : wc (l.map (·.ao)) p = wc (l.map (·.ao)) q) : ∀ k u, l[k]? = some u → isW u.ao = true → (k < p ↔ k < q) := by
  intro k u hk hw
  have hw' : (((l.map (·.ao))[k]?).any isW) = true := by simp [hk, hw]
  constructor
  · intro h1
    apply Classical.byContradiction
    intro h2
    rw [wc_none hpq.symm (by omega) h1] at hw'; cases hw'
  · intro h1
    apply Classical.byContradiction
    intro h2
    rw [wc_none hpq (by omega) h1] at hw'; cases hw'

/-- One operation, in whatever order. -/
theorem drawn_op (hE : EnvOk E) (hC : CallsOk E C) (hl : l = span (Region.before ops) (l0.map (·.ao)) l0 0) (T : Tr' E C l fr h) (hco : Corr E.P ops l) (hok : regOk ops l0 = true)
    {Q : Exit → Act → World → Prop} {S S' : Nat → Prop} {cut i : Nat} {M : BMap} {F : Nat → Option AB} {a : Act} {w : World} (I : CInv E C l fr h M0 w0 d0 S cut M F a w)
    (hS' : ∀ k, S' k ↔ S k ∨ k = i) (hi : ¬ S i) (hcl : Closed ops S) (hcl' : Closed ops S') (hlt : i < ops.size) {K : Act → World → Prop}
    (hK : ∀ cut' M' F' a' w', CInv E C l fr h M0 w0 d0 S' cut' M' F' a' w' → K a' w') : wpOp E.P ops Q i K a w := by
  have hback := regOk_back hok
  have hmap : l.map (·.ao) = l0.map (·.ao) := by rw [hl, span_map]
  obtain ⟨u, hu⟩ : ∃ u, l[i]? = some u := ⟨l[i]'(by rw [hco.len]; exact hlt), List.getElem?_eq_getElem _⟩
  obtain ⟨o, ho, hdst, hao, hargs, hg⟩ := hco.op i u hu
  have hc : compOp' E.P o = (u.ao, u.args) := by rw [hao, hargs]
  have at0 : ∀ k u', l[k]? = some u' → ∃ u0, l0[k]? = some u0 ∧ u0.dst = u'.dst ∧ u0.ao = u'.ao ∧ namesOf u0 = namesOf u' ∧ u'.lo = countW (fun j => ahead (Region.before ops) j k) (l0.map (·.ao)) 0 ∧ u'.hi = countW (fun j => !ahead (Region.before ops) k j) (l0.map (·.ao)) 0 := by
    intro k u' hk
    rw [hl, span_get] at hk
    cases e : l0[k]? with
    | none => rw [e] at hk; cases hk
    | some u0 =>
      rw [e] at hk
      simp only [Option.map_some, Option.some.injEq, Nat.zero_add] at hk
      subst hk
      exact ⟨u0, rfl, rfl, rfl, rfl, rfl, rfl⟩
  have pre : ∀ k, ahead (Region.before ops) k i = true → k ≠ i → S k := fun k ha hne => ((hS' k).1 (ahead_listed hback hcl' i k ((hS' i).2 (.inr rfl)) ha)).resolve_right hne
  have post : ∀ k, ahead (Region.before ops) i k = true → ¬ S k := fun k ha hk => hi (ahead_listed hback hcl k i hk ha)
  obtain ⟨u0, h0, e1, e2, e3, hlo, hhi⟩ := at0 i u hu
  have names : ∀ t, t ∈ namesOf u → ∀ k u', l[k]? = some u' → u'.dst = some t → (S k ↔ k < i) := by
    intro t ht k u' hk hd
    obtain ⟨v0, g0, d1, _⟩ := at0 k u' hk
    by_cases ek : k = i
    · subst ek; exact ⟨fun x => absurd x hi, fun x => by omega⟩
    · have := regOk_names hok h0 g0 ek (t := t) (by rw [e3]; exact ht) (by rw [d1]; exact hd)
      by_cases hki : k < i
      · rw [if_pos hki] at this
        exact ⟨fun _ => hki, fun _ => pre k this ek⟩
      · rw [if_neg hki] at this
        exact ⟨fun x => absurd x (post k this), fun x => absurd x hki⟩
  have hd : ∀ t, u.dst = some t → ∀ k u', l[k]? = some u' → u'.dst = some t → (S k ↔ k < i) := by
    intro t e; exact names t (by simp [namesOf, e])
  have hsz : a.tmps.size = (st E C l fr h i).1.length := by rw [T.frLen, I.size]
  have slot : ∀ t, t ∈ namesOf u → SlotRel M (st E C l fr h i).1 a.tmps t := fun t ht => I.slotAt T (names t ht)
  have hx : LRel M (u.args.map (aeval (st E C l fr h i).1)) (u.args.map a.eval) := args_rel hsz _ fun t ht => slot t (by simp [namesOf, ht])
  have hwant : Region.wanted o (yielded ops a.tmps) = wantedA u (st E C l fr h i).1 := wanted_eq hsz hg fun t ht => slot t (by simp only [namesOf, List.mem_append]; exact .inr ht)
  have turn : isW u.ao = true → ∀ k u', l[k]? = some u' → isW u'.ao = true → (k < cut ↔ k < i) := by
    intro hw k u' hk hw'
    rw [← I.cutW k u' hk hw']
    obtain ⟨v0, g0, _, d2, _⟩ := at0 k u' hk
    by_cases ek : k = i
    · subst ek; exact ⟨fun x => absurd x hi, fun x => by omega⟩
    · by_cases hki : k < i
      · have := regOk_w hok h0 g0 hki (by rw [e2]; exact hw) (by rw [d2]; exact hw')
        exact ⟨fun _ => hki, fun _ => pre k this ek⟩
      · have := regOk_w hok g0 h0 (show i < k by omega) (by rw [d2]; exact hw') (by rw [e2]; exact hw)
        exact ⟨fun x => absurd x (post k this), fun x => absurd x hki⟩
  unfold wpOp
  rw [ho]
  simp only
  rw [hwant]
  cases hw : wantedA u (st E C l fr h i).1 with
  | false =>
    rw [if_neg (by simp)]
    rw [← hdst]
    have hf := st_false hu hw
    have hst : (st E C l fr h (i + 1)).1 = putA (st E C l fr h i).1 u.dst (.c undef) := by rw [hf]
    have hsame : (st E C l fr h (i + 1)).2 = (st E C l fr h i).2 := by rw [hf]
    cases hisw : isW u.ao with
    | true =>
      have I := I.recut T (turn hisw)
      obtain ⟨F', I'⟩ := I.nextW T hu hS' hi (x := .c undef) (v := undef) (by rw [hsame]; exact Step.refl (I.rel.sub (agree_sub I.F1))) hst (.c _) hd
      exact hK _ _ _ _ _ I'
    | false =>
      obtain ⟨F', I'⟩ := I.nextKeep T hu hS' hi hsame (by rw [hisw]; intro x; cases x) (x := .c undef) (v := undef) (Step.refl (I.rel.sub (agree_sub I.F1))) hst (.c _) hd
      exact hK _ _ _ _ _ I'
  | true =>
    rw [if_pos rfl]
    left
    have hs := T.ok i u hu hw
    have hst := T.fr_true hu hw
    have hcomp := comp_of_ok hc hs
    cases hcls : u.ao.cls with
    | p =>
      have hisw : isW u.ao = false := by simp [isW, hcls]
      have hsame := T.same hu (.inl hcls)
      have hs' : astep E C u.ao (u.args.map (aeval (st E C l fr h i).1)) (st E C l fr h cut).2 = some (vl E C l fr h i, (st E C l fr h cut).2) := by
        simp only [astep, hcls, Option.map_eq_some_iff, Prod.mk.injEq] at hs ⊢
        obtain ⟨y, hy, e, _⟩ := hs
        exact ⟨y, hy, e, trivial⟩
      refine op_wp hE hC hc (I.rel.sub (agree_sub I.F1)) hx (fun b h1 h2 => by omega) hs' ?_
      intro M' v w' s r
      rw [← hdst]
      obtain ⟨F', I'⟩ := I.nextKeep T hu hS' hi hsame (by rw [hisw]; intro x; cases x) s hst r hd
      exact hK _ _ _ _ _ I'
    | l =>
      have hisw : isW u.ao = false := by simp [isW, hcls]
      have hisl : isL u.ao = true := by simp [isL, hcls]
      have hsame := T.same hu (.inr (.inl hcls))
      obtain ⟨p, p1, p2, p3⟩ := low_place (l.map (·.ao)) cut
      have hlo' : u.lo ≤ wc (l.map (·.ao)) p := by
        rw [p2, hlo, hmap]
        refine countW_mono fun k o' hk hw' hp => ?_
        simp only [Nat.zero_add] at hp ⊢
        have hkm : (l.map (·.ao))[k]? = some o' := by rw [hmap]; exact hk
        rw [List.getElem?_map, Option.map_eq_some_iff] at hkm
        obtain ⟨u', g, rfl⟩ := hkm
        have hne : k ≠ i := by intro e; subst e; rw [hu] at g; injection g with g; subst g; rw [hisw] at hw'; cases hw'
        exact decide_eq_true ((I.cutW k u' g hw').1 (pre k hp hne))
      have hhi' : wc (l.map (·.ao)) p ≤ u.hi := by
        rw [p2, hhi, hmap]
        refine countW_mono fun k o' hk hw' hp => ?_
        simp only [Nat.zero_add, decide_eq_true_eq] at hp ⊢
        have hkm : (l.map (·.ao))[k]? = some o' := by rw [hmap]; exact hk
        rw [List.getElem?_map, Option.map_eq_some_iff] at hkm
        obtain ⟨u', g, rfl⟩ := hkm
        have hsk := (I.cutW k u' g hw').2 hp
        cases ha : ahead (Region.before ops) i k with
        | false => rfl
        | true => exact absurd hsk (post k ha)
      obtain ⟨q, q1, q2, q3, q4⟩ := T.ver i u hu hisl hw p (by simpa using p1) p3 hlo' hhi'
      have I := I.recut T (wc_cut (p2.symm.trans q3.symm))
      have hs' : astep E C u.ao (u.args.map (aeval (st E C l fr h i).1)) (st E C l fr h q).2 = some (vl E C l fr h i, (st E C l fr h q).2) := by
        simp only [astep, hcls, q4, Option.map_some]
      refine op_wp hE hC hc (I.rel.sub (agree_sub I.F1)) hx (fun b h1 h2 => by omega) hs' ?_
      intro M' v w' s r
      rw [← hdst]
      obtain ⟨F', I'⟩ := I.nextKeep T hu hS' hi hsame (by rw [hisw]; intro x; cases x) s hst r hd
      exact hK _ _ _ _ _ I'
    | a =>
      have hisw : isW u.ao = false := by simp [isW, hcls]
      simp only [astep, hcls, Option.map_eq_some_iff, Prod.mk.injEq] at hs
      obtain ⟨⟨k0, y⟩, hy, hvy, hpush⟩ := hs
      have hM : M (st E C l fr h i).2.len = none := I.D i u hu hi _ (Nat.le_refl _) (by rw [← hpush]; simp)
      obtain ⟨cb, nx, v, w', A⟩ := anew_sim hcomp hcls I.rel hx hM hy
      unfold Oper.wp
      rw [A.run, upon_val A.nv]
      rw [← hdst]
      obtain ⟨M', F', I'⟩ := I.nextA T hu hS' hi hisw hpush.symm A (by rw [hst, ← hvy]) hd
      exact hK _ _ _ _ _ I'
    | w =>
      have hisw : isW u.ao = true := by simp [isW, hcls]
      have I := I.recut T (turn hisw)
      refine op_wp hE hC hc (I.rel.sub (agree_sub I.F1)) hx (fun b h1 h2 => I.D i u hu hi b h1 h2) hs ?_
      intro M' v w' s r
      rw [← hdst]
      obtain ⟨F', I'⟩ := I.nextW T hu hS' hi s hst r hd
      exact hK _ _ _ _ _ I'

/-- All of a region, in whatever order. -/
theorem drawn_any (hE : EnvOk E) (hC : CallsOk E C) (hl : l = span (Region.before ops) (l0.map (·.ao)) l0 0) (T : Tr' E C l fr h) (hco : Corr E.P ops l) (hok : regOk ops l0 = true) {Q : Exit → Act → World → Prop}
    (hQ : ∀ M' a' w', Step E.W0 M0 h w0 M' (st E C l fr h l.length).2 w' → LRel M' (st E C l fr h l.length).1 a'.tmps.toList → a'.defers = d0 → Q .normal a' w') :
    ∀ (fuel : Nat) (listed : Array Bool) (cut : Nat) (M : BMap) (F : Nat → Option AB) (a : Act) (w : World), listed.size = ops.size → listed.toList.count false ≤ fuel → Closed ops (Lst listed) →
      CInv E C l fr h M0 w0 d0 (Lst listed) cut M F a w → wpAny E.P .any ops Q fuel listed a w := by
  have hback := regOk_back hok
  have fin : ∀ (listed : Array Bool) (cut : Nat) (M : BMap) (F : Nat → Option AB) (a : Act) (w : World), CInv E C l fr h M0 w0 d0 (Lst listed) cut M F a w → (∀ k, k < ops.size → Lst listed k) → Q .normal a w := by
    intro listed cut M F a w I hall
    obtain ⟨s, r, d⟩ := I.done T (fun k hk => hall k (by rw [← hco.len]; exact hk))
    exact hQ M a w s r d
  intro fuel
  induction fuel with
  | zero =>
    intro listed cut M F a w hn hc hcl I
    have hall : ∀ k, k < ops.size → Lst listed k := by
      intro k hk
      have := count_zero (show listed.toList.count false = 0 by omega) k (by simpa [hn] using hk)
      simpa [Lst] using this
    refine ⟨?_, fin _ _ _ _ _ _ I hall⟩
    cases hr : Region.ready .any ops listed with
    | nil => rfl
    | cons i r =>
      obtain ⟨h1, h2, _⟩ := ready_spec hn (i := i) (by rw [hr]; simp)
      have := hall i h1
      unfold Lst at this
      rw [h2] at this; cases this
  | succ fuel ih =>
    intro listed cut M F a w hn hc hcl I
    refine ⟨fun hr => fin _ _ _ _ _ _ I (ready_nil hback hn hr), ?_⟩
    intro i hi
    obtain ⟨h1, h2, h3⟩ := ready_spec hn hi
    have hi' : ¬ Lst listed i := by unfold Lst; rw [h2]; intro x; cases x
    have hS' : ∀ k, Lst (listed.setIfInBounds i true) k ↔ Lst listed k ∨ k = i := by
      intro k
      unfold Lst
      rw [Array.getElem?_setIfInBounds]
      by_cases e : i = k
      · subst e; rw [if_pos rfl, if_pos (by omega)]; simp
      · rw [if_neg e]
        constructor
        · exact .inl
        · rintro (x | x)
          · exact x
          · exact absurd x.symm e
    have hcl' : Closed ops (Lst (listed.setIfInBounds i true)) := by
      intro k o ho hk e he hb
      rw [hS'] at hk ⊢
      rcases hk with x | x
      · exact .inl (hcl k o ho x e he hb)
      · subst x; exact .inl (h3 o ho e he hb)
    refine drawn_op hE hC hl T hco hok I hS' hi' hcl hcl' h1 ?_
    intro cut' M' F' a' w' I'
    refine ih _ cut' M' F' a' w' (by simpa using hn) ?_ hcl' I'
    have := count_set listed.toList i (by simpa using h2)
    rw [Array.toList_setIfInBounds]
    omega

theorem drawn_wp (hE : EnvOk E) (hC : CallsOk E C) (hLen : LenOk C) (hm : E.P.follows .mixedOrders = true) (hcomp : compOps E.P ops ops.toList = some l0) (hok : regOk ops l0 = true) {fr' : Fr} {h' : H}
    (hr : execD E C (span (Region.before ops) (l0.map (·.ao)) l0 0) fr h [] [] = some (fr', h')) {M : BMap} {a : Act} {w : World} {id : Nat} {Q : Exit → Act → World → Prop} (K : HRel E.W0 M h.get w) (hfr : LRel M fr a.tmps.toList)
    (hfresh : Fresh M h.len h'.len) (hQ : ∀ M' a' w', Step E.W0 M h w M' h' w' → LRel M' fr' a'.tmps.toList → a'.defers = a.defers → Q .normal a' w') : (Code.region id ops true).wp E.P Q a w := by
  obtain ⟨vs, ck, TT⟩ := TInv.all hr
  have hlast := TT.last
  have T := TT.tr hLen
  have hco := (Corr.of hcomp).span (Region.before ops) (l0.map (·.ao))
  have K' : HRel E.W0 M h.get { w with drawn := w.drawn + 1 } := ⟨K.has, K.inj, K.bnd, ⟨K.old.os, K.old.tape, K.old.output, K.old.size, K.old.block⟩⟩
  have hno : ∀ k, ¬ Lst (Array.replicate ops.size false) k := by
    intro k hk
    unfold Lst at hk
    rw [Array.getElem?_replicate] at hk
    split at hk <;> cases hk
  refine wp_region_any hm (drawn_any (M0 := M) (w0 := { w with drawn := w.drawn + 1 }) (d0 := a.defers) hE hC rfl T hco hok ?_ ops.size _ 0 M h.get a _ (by simp) ?_ ?_ ?_)
  · intro M' a' w' s r d
    rw [hlast] at s r
    refine hQ M' a' w' ⟨s.len, s.le, s.new, s.rel, ⟨s.fram.size, s.fram.keep⟩, s.ghost, s.own⟩ r d
  · exact Nat.le_trans List.count_le_length (by simp)
  · intro k o _ hk; exact absurd hk (hno k)
  · exact CInv.init hno T K' hfr (by rw [hlast]; exact hfresh)
end
end Go.Sx
