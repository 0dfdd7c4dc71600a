/- Code, results, functions. -/
import Derived.Test.YtdaicpekdnkafaaGreatDoorSyA
import Derived.LoopN
namespace Go.Sx
open Go Go.RowKit
section
variable {E : Env} {C : CallF}

theorem Fresh.next {w0 : World} {M M1 : BMap} {h h1 : H} {w w1 : World} {m : Nat} (f : Fresh M h.len m) (s : Step w0 M h w M1 h1 w1) : Fresh M1 h1.len m := by
  intro b h1' h2
  have := s.len
  have e := f b (by omega) h2
  cases e' : M1 b with
  | none => rfl
  | some cb => have := s.new b e (by rw [e']; simp); omega
theorem Fresh.less {M : BMap} {n m m' : Nat} (f : Fresh M n m) (h : m' ≤ m) : Fresh M n m' := fun b h1 h2 => f b h1 (by omega)

/-! ### No block is taken away -/
theorem execOps_len (hL : LenOk C) : ∀ (l : List AOper) (fr : Fr) (h : H) (fr' : Fr) (h' : H), execOps E C l fr h = some (fr', h') → h.len ≤ h'.len := by
  intro l
  induction l with
  | nil => intro fr h fr' h' e; simp [execOps] at e; rw [e.2]; exact Nat.le_refl _
  | cons u l ih =>
    intro fr h fr' h' e
    simp only [execOps] at e
    split at e
    · split at e <;> first | (cases e; done) | skip
      rename_i v h1 hs
      exact Nat.le_trans (astep_len hL hs) (ih _ _ _ _ e)
    · exact ih _ _ _ _ e
theorem execD_len (hL : LenOk C) {l : List AOper} {fr fr' : Fr} {h h' : H} (e : execD E C l fr h [] [] = some (fr', h')) : h.len ≤ h'.len := by
  obtain ⟨vs, ck, TT⟩ := TInv.all e
  have hlast := TT.last
  have := (TT.tr hL).lenM (Nat.zero_le l.length)
  rw [hlast] at this
  exact this
theorem iter_len {f : Fr → H → Option (AExit × Fr × H)} (hf : ∀ fr h r fr' h', f fr h = some (r, fr', h') → h.len ≤ h'.len) : ∀ (n : Nat) (fr : Fr) (h : H) (r : AExit) (fr' : Fr) (h' : H), iter f n fr h = some (r, fr', h') → h.len ≤ h'.len := by
  intro n
  induction n with
  | zero => intro fr h r fr' h' e; cases e
  | succ n ih =>
    intro fr h r fr' h' e
    simp only [iter] at e
    split at e
    · rename_i fr1 h1 hs
      exact Nat.le_trans (hf _ _ _ _ _ hs) (ih _ _ _ _ _ e)
    · exact hf _ _ _ _ _ e
theorem exec_len (hL : LenOk C) (n : Nat) : ∀ (c : AC) (fr : Fr) (h : H) (r : AExit) (fr' : Fr) (h' : H), exec E C n c fr h = some (r, fr', h') → h.len ≤ h'.len := by
  intro c
  induction c with
  | skip => intro fr h r fr' h' e; simp [exec] at e; rw [e.2.2]; exact Nat.le_refl _
  | exit id => intro fr h r fr' h' e; simp [exec] at e; rw [e.2.2]; exact Nat.le_refl _
  | ret => intro fr h r fr' h' e; simp [exec] at e; rw [e.2.2]; exact Nat.le_refl _
  | fail => intro fr h r fr' h' e; simp [exec] at e
  | reg ops d =>
    intro fr h r fr' h' e
    simp only [exec] at e
    split at e <;> first | (cases e; done) | skip
    rename_i fr1 h1 hs
    simp only [Option.some.injEq, Prod.mk.injEq] at e
    obtain ⟨_, _, rfl⟩ := e
    cases d with
    | true => exact execD_len hL hs
    | false => exact execOps_len hL _ _ _ _ _ hs
  | seq a b iha ihb =>
    intro fr h r fr' h' e
    simp only [exec] at e
    split at e
    · rename_i fr1 h1 hs
      exact Nat.le_trans (iha _ _ _ _ _ hs) (ihb _ _ _ _ _ e)
    · exact iha _ _ _ _ _ e
  | cond c a b iha ihb =>
    intro fr h r fr' h' e
    simp only [exec] at e
    split at e
    · exact iha _ _ _ _ _ e
    · exact ihb _ _ _ _ _ e
    · cases e
  | block id b ih =>
    intro fr h r fr' h' e
    simp only [exec] at e
    split at e
    · rename_i k fr1 h1 hs
      have := ih _ _ _ _ _ hs
      cases hk : k.beq id <;> rw [hk] at e <;> simp at e <;> rw [← e.2.2] <;> exact this
    · exact ih _ _ _ _ _ e
  | loop b ih =>
    intro fr h r fr' h' e
    exact iter_len ih n fr h r fr' h' e

/-! ### A region in the text's order -/
theorem put_rel {M : BMap} {fr : Fr} {a : Act} (hr : LRel M fr a.tmps.toList) (d : Option Tmp) {x : AV} {v : Value} (hv : VRel M x v) : LRel M (putA fr d x) (a.put d v).tmps.toList := by
  cases d with
  | none => exact hr
  | some d =>
    simp only [putA, Act.put, Array.toList_setIfInBounds]
    exact hr.set d hv

theorem plain_wp (hE : EnvOk E) (hC : CallsOk E C) (hLen : LenOk C) {ops : Array Oper} {l : List AOper} (hco : Corr E.P ops l) {fr' : Fr} {h' : H} {Q : Exit → Act → World → Prop} : ∀ (m i : Nat) (fr : Fr) (h : H) (M : BMap) (a : Act) (w : World), i + m = l.length →
    execOps E C (l.drop i) fr h = some (fr', h') → HRel E.W0 M h.get w → LRel M fr a.tmps.toList → Fresh M h.len h'.len →
    (∀ M' a' w', Step E.W0 M h w M' h' w' → LRel M' fr' a'.tmps.toList → a'.defers = a.defers → Q .normal a' w') → wpOps E.P ops Q (List.range' i m) a w := by
  intro m
  induction m with
  | zero =>
    intro i fr h M a w hi he K hr hf hQ
    have hdrop : l.drop i = [] := List.drop_eq_nil_iff.2 (by omega)
    rw [hdrop] at he
    simp only [execOps, Option.some.injEq, Prod.mk.injEq] at he
    obtain ⟨rfl, rfl⟩ := he
    exact hQ M a w (Step.refl K) hr rfl
  | succ m ih =>
    intro i fr h M a w hi he K hr hf hQ
    have hlt : i < l.length := by omega
    have hu : l[i]? = some l[i] := List.getElem?_eq_getElem hlt
    obtain ⟨o, ho, hdst, hao, hargs, hg⟩ := hco.op i _ hu
    rw [List.drop_eq_getElem_cons hlt] at he
    generalize l[i] = u at *
    have hc : compOp' E.P o = (u.ao, u.args) := by rw [hao, hargs]
    have hsz : a.tmps.size = fr.length := by simpa using hr.1
    have slot : ∀ t, SlotRel M fr a.tmps t := fun t x v hx hv => hr.2 t x v hx (by simpa using hv)
    have hwant : Region.wanted o (yielded ops a.tmps) = wantedA u fr := wanted_eq hsz hg fun t _ => slot t
    rw [List.range'_succ]
    simp only [wpOps, ho]
    rw [hwant]
    simp only [execOps] at he
    cases hw : wantedA u fr with
    | false =>
      rw [hw] at he
      simp only at he
      rw [if_neg (by simp)]
      refine ih (i + 1) _ h M _ w (by omega) he K ?_ hf ?_
      · rw [← hdst]; exact put_rel hr _ (.c _)
      · intro M' a' w' s r d; exact hQ M' a' w' s r (by rw [d, put_defers])
    | true =>
      rw [hw] at he
      simp only at he
      rw [if_pos rfl]
      left
      split at he <;> first | (cases he; done) | skip
      rename_i v h1 hs
      have hx := args_rel hsz u.args fun t _ => slot t
      have hl1 := execOps_len hLen _ _ _ _ _ he
      refine op_wp hE hC hc K hx (hf.less hl1) hs ?_
      intro M1 v' w1 s hv
      refine ih (i + 1) _ h1 M1 _ w1 (by omega) he s.rel ?_ (hf.next s) ?_
      · rw [← hdst]; exact put_rel ⟨hr.1, fun i x v hx hv => (hr.2 i x v hx hv).mono s.le⟩ _ hv
      · intro M' a' w' s' r d; exact hQ M' a' w' (s.trans s') r (by rw [d, put_defers])

/-! ### Code -/
def AExit.of : AExit → Exit
  | .normal => .normal
  | .exit id => .exit id
  | .ret => .ret

theorem code_wp (hE : EnvOk E) (hC : CallsOk E C) (hLen : LenOk C) (hm : E.P.follows .mixedOrders = true) (n : Nat) : ∀ (c : Code) (ac : AC), compC E.P c = some ac → ∀ (fr : Fr) (h : H) (r : AExit) (fr' : Fr) (h' : H), exec E C n ac fr h = some (r, fr', h') →
    ∀ (M : BMap) (a : Act) (w : World) (Q : Exit → Act → World → Prop), HRel E.W0 M h.get w → LRel M fr a.tmps.toList → Fresh M h.len h'.len →
    (∀ M' a' w', Step E.W0 M h w M' h' w' → LRel M' fr' a'.tmps.toList → a'.defers = a.defers → Q r.of a' w') → c.wp E.P Q a w := by
  intro c
  induction c with
  | skip =>
    intro ac hc fr h r fr' h' he M a w Q K hr hf hQ
    simp only [compC, Option.some.injEq] at hc; subst hc
    simp only [exec, Option.some.injEq, Prod.mk.injEq] at he
    obtain ⟨rfl, rfl, rfl⟩ := he
    exact wp_skip (hQ M a w (Step.refl K) hr rfl)
  | region id ops d =>
    intro ac hc fr h r fr' h' he M a w Q K hr hf hQ
    simp only [compC] at hc
    split at hc <;> first | (cases hc; done) | skip
    rename_i l hl
    injection hc with hc
    cases d with
    | false =>
      simp only [cond_false] at hc
      subst hc
      simp only [exec, cond_false] at he
      split at he <;> first | (cases he; done) | skip
      rename_i fr1 h1 hs
      simp only [Option.some.injEq, Prod.mk.injEq] at he
      obtain ⟨rfl, rfl, rfl⟩ := he
      have hco := Corr.of hl
      refine wp_region ?_
      rw [List.range_eq_range', ← hco.len]
      exact plain_wp hE hC hLen hco l.length 0 fr h M a w (by omega) (by simpa using hs) K hr hf hQ
    | true =>
      simp only [cond_true] at hc
      cases hok : regOk ops l with
      | false => rw [hok] at hc; simp only [cond_false] at hc; subst hc; simp [exec] at he
      | true =>
        rw [hok] at hc
        simp only [cond_true] at hc
        subst hc
        simp only [exec, cond_true] at he
        split at he <;> first | (cases he; done) | skip
        rename_i fr1 h1 hs
        simp only [Option.some.injEq, Prod.mk.injEq] at he
        obtain ⟨rfl, rfl, rfl⟩ := he
        exact drawn_wp hE hC hLen hm hl hok hs K hr hf hQ
  | seq x y ihx ihy =>
    intro ac hc fr h r fr' h' he M a w Q K hr hf hQ
    simp only [compC] at hc
    split at hc <;> first | (cases hc; done) | skip
    rename_i ax ay hx hy
    injection hc with hc; subst hc
    simp only [exec] at he
    refine wp_seq ?_
    split at he
    · rename_i fr1 h1 hs
      have hl := exec_len hLen n _ _ _ _ _ _ he
      refine ihx ax hx _ _ _ _ _ hs M a w _ K hr (hf.less hl) ?_
      intro M1 a1 w1 s r1 d1
      refine ihy ay hy _ _ _ _ _ he M1 a1 w1 Q s.rel r1 (hf.next s) ?_
      intro M2 a2 w2 s2 r2 d2
      exact hQ M2 a2 w2 (s.trans s2) r2 (d2.trans d1)
    · rename_i hne
      refine ihx ax hx _ _ _ _ _ he M a w _ K hr hf ?_
      intro M1 a1 w1 s r1 d1
      have := hQ M1 a1 w1 s r1 d1
      cases r with
      | normal => exact absurd he (hne fr' h')
      | exit k => exact this
      | ret => exact this
  | cond c x y ihx ihy =>
    intro ac hc fr h r fr' h' he M a w Q K hr hf hQ
    simp only [compC] at hc
    split at hc <;> first | (cases hc; done) | skip
    rename_i ax ay hx hy
    injection hc with hc; subst hc
    simp only [exec] at he
    have hv : VRel M (aeval fr c) (a.eval c) := aeval_rel (by simpa using hr.1) c fun t _ x v hx hv => hr.2 t x v hx (by simpa using hv)
    split at he
    · rename_i hb
      rw [hb] at hv
      exact wp_cond_true (hv.c_inv) (ihx ax hx _ _ _ _ _ he M a w Q K hr hf hQ)
    · rename_i hb
      rw [hb] at hv
      exact wp_cond_false (hv.c_inv) (ihy ay hy _ _ _ _ _ he M a w Q K hr hf hQ)
    · cases he
  | block id b ih =>
    intro ac hc fr h r fr' h' he M a w Q K hr hf hQ
    simp only [compC, Option.map_eq_some_iff] at hc
    obtain ⟨ab, hb, rfl⟩ := hc
    simp only [exec] at he
    refine wp_block ?_
    split at he
    · rename_i k fr1 h1 hs
      refine ih ab hb _ _ _ _ _ hs M a w _ K hr ?_ ?_
      · have : h1 = h' := by cases hk : k.beq id <;> rw [hk] at he <;> simp at he <;> exact he.2.2
        rw [this]; exact hf
      · intro M1 a1 w1 s r1 d1
        show (if k = id then Q .normal a1 w1 else Q (.exit k) a1 w1)
        cases hk : k.beq id with
        | true =>
          rw [hk] at he
          simp only [cond_true, Option.some.injEq, Prod.mk.injEq] at he
          obtain ⟨rfl, rfl, rfl⟩ := he
          rw [if_pos (Nat.eq_of_beq_eq_true hk)]
          exact hQ M1 a1 w1 s r1 d1
        | false =>
          rw [hk] at he
          simp only [cond_false, Option.some.injEq, Prod.mk.injEq] at he
          obtain ⟨rfl, rfl, rfl⟩ := he
          rw [if_neg (Nat.ne_of_beq_eq_false hk)]
          exact hQ M1 a1 w1 s r1 d1
    · rename_i hne
      refine ih ab hb _ _ _ _ _ he M a w _ K hr hf ?_
      intro M1 a1 w1 s r1 d1
      have := hQ M1 a1 w1 s r1 d1
      cases r with
      | normal => exact this
      | exit k => exact absurd he (hne k fr' h')
      | ret => exact this
  | loop b ih =>
    intro ac hc fr h r fr' h' he M a w Q K hr hf hQ
    simp only [compC, Option.map_eq_some_iff] at hc
    obtain ⟨ab, hb, rfl⟩ := hc
    simp only [exec] at he
    have key : ∀ (m : Nat) (fr : Fr) (h : H) (M : BMap) (a : Act) (w : World), iter (exec E C n ab) m fr h = some (r, fr', h') → HRel E.W0 M h.get w → LRel M fr a.tmps.toList → Fresh M h.len h'.len →
        (∀ M' a' w', Step E.W0 M h w M' h' w' → LRel M' fr' a'.tmps.toList → a'.defers = a.defers → Q r.of a' w') → Code.rounds E.P b Q m a w := by
      intro m
      induction m with
      | zero => intro fr h M a w he; cases he
      | succ m ihm =>
        intro fr h M a w he K hr hf hQ
        simp only [iter] at he
        rw [rounds_succ]
        split at he
        · rename_i fr1 h1 hs
          have hl := iter_len (exec_len hLen n ab) _ _ _ _ _ _ he
          refine ih ab hb _ _ _ _ _ hs M a w _ K hr (hf.less hl) ?_
          intro M1 a1 w1 s r1 d1
          refine ihm fr1 h1 M1 a1 w1 he s.rel r1 (hf.next s) ?_
          intro M2 a2 w2 s2 r2 d2
          exact hQ M2 a2 w2 (s.trans s2) r2 (d2.trans d1)
        · rename_i hne
          refine ih ab hb _ _ _ _ _ he M a w _ K hr hf ?_
          intro M1 a1 w1 s r1 d1
          have := hQ M1 a1 w1 s r1 d1
          cases r with
          | normal => exact absurd he (hne fr' h')
          | exit k => exact this
          | ret => exact this
    exact wp_loop_rounds n (key n fr h M a w he K hr hf hQ)
  | exit id =>
    intro ac hc fr h r fr' h' he M a w Q K hr hf hQ
    simp only [compC, Option.some.injEq] at hc; subst hc
    simp only [exec, Option.some.injEq, Prod.mk.injEq] at he
    obtain ⟨rfl, rfl, rfl⟩ := he
    exact wp_exit (hQ M a w (Step.refl K) hr rfl)
  | ret =>
    intro ac hc fr h r fr' h' he M a w Q K hr hf hQ
    simp only [compC, Option.some.injEq] at hc; subst hc
    simp only [exec, Option.some.injEq, Prod.mk.injEq] at he
    obtain ⟨rfl, rfl, rfl⟩ := he
    exact wp_ret (hQ M a w (Step.refl K) hr rfl)
  | _ =>
    intro ac hc fr h r fr' h' he
    simp only [compC, Option.some.injEq] at hc; subst hc
    simp [exec] at he
end
end Go.Sx
