/- The same reading, laid out so that the kernel works it out fast: slots in a tree, recursors named outright. -/
import Derived.Test.YtdaicpekdnkafaaGreatDoorSyD
namespace Go.Sx
open Go Go.RowKit

/-! ### Slots in a tree -/
inductive Ft where
  | nil
  | node (l : Ft) (v : AV) (r : Ft)

noncomputable def Ft.get (p : List Bool) : Ft → AV :=
  @List.rec Bool (fun _ => Ft → AV) (fun t => @Ft.rec (fun _ => AV) (.c undef) (fun _ v _ _ _ => v) t)
    (fun b _ ih t => @Ft.rec (fun _ => AV) (.c undef) (fun l _ r _ _ => @Bool.rec (fun _ => AV) (ih r) (ih l) b) t) p
noncomputable def Ft.set (v : AV) (p : List Bool) : Ft → Ft :=
  @List.rec Bool (fun _ => Ft → Ft) (fun t => @Ft.rec (fun _ => Ft) (.node .nil v .nil) (fun l _ r _ _ => .node l v r) t)
    (fun b _ ih t => @Ft.rec (fun _ => Ft) (@Bool.rec (fun _ => Ft) (.node .nil (.c undef) (ih .nil)) (.node (ih .nil) (.c undef) .nil) b) (fun l x r _ _ => @Bool.rec (fun _ => Ft) (.node l x (ih r)) (.node (ih l) x r) b) t) p

@[simp] theorem Ft.get_nil (p : List Bool) : Ft.get p .nil = .c undef := by cases p <;> rfl
theorem Ft.get_set (v : AV) : ∀ (q p : List Bool) (t : Ft), (t.set v q).get p = if p = q then v else t.get p := by
  intro q
  induction q with
  | nil =>
    intro p t
    cases p with
    | nil => cases t <;> rfl
    | cons b p =>
      rw [if_neg (by simp)]
      cases t with
      | nil => cases b <;> exact Ft.get_nil p
      | node l x r => rfl
  | cons c q ih =>
    intro p t
    cases p with
    | nil =>
      rw [if_neg (by simp)]
      cases t <;> cases c <;> rfl
    | cons b p =>
      cases t with
      | nil =>
        have h1 : Ft.get (b :: p) .nil = .c undef := Ft.get_nil _
        rw [h1]
        cases b <;> cases c
        · show (Ft.nil.set v q).get p = _
          rw [ih]; simp
        · show Ft.get p .nil = _
          rw [if_neg (by simp)]; exact Ft.get_nil p
        · show Ft.get p .nil = _
          rw [if_neg (by simp)]; exact Ft.get_nil p
        · show (Ft.nil.set v q).get p = _
          rw [ih]; simp
      | node l x r =>
        cases b <;> cases c
        · show (r.set v q).get p = if _ then v else r.get p
          rw [ih]; simp
        · show r.get p = if _ then v else r.get p
          rw [if_neg (by simp)]
        · show l.get p = if _ then v else l.get p
          rw [if_neg (by simp)]
        · show (l.set v q).get p = if _ then v else l.get p
          rw [ih]; simp

/-- The road to the slot n. -/
def pthF : Nat → Nat → List Bool
  | 0, _ => []
  | f + 1, n => bif n.beq 0 then [] else bif (Nat.mod n 2).beq 1 then true :: pthF f (Nat.div n 2) else false :: pthF f (Nat.sub (Nat.div n 2) 1)
def pth (n : Nat) : List Bool := pthF (n + 1) n

theorem pthF_inj : ∀ (f g n m : Nat), n < f → m < g → pthF f n = pthF g m → n = m := by
  intro f
  induction f with
  | zero => intro g n m h; omega
  | succ f ih =>
    intro g n m hn hm h
    cases g with
    | zero => omega
    | succ g =>
      have mods : ∀ k : Nat, k ≠ 0 → (Nat.mod k 2).beq 1 = true → Nat.div k 2 * 2 + 1 = k := by
        intro k _ h
        have := Nat.eq_of_beq_eq_true h
        have h2 : k % 2 = 1 := this
        show k / 2 * 2 + 1 = k
        omega
      have mods' : ∀ k : Nat, k ≠ 0 → (Nat.mod k 2).beq 1 = false → Nat.div k 2 * 2 = k ∧ Nat.sub (Nat.div k 2) 1 + 1 = Nat.div k 2 := by
        intro k hk h
        have := Nat.ne_of_beq_eq_false h
        have h2 : k % 2 ≠ 1 := this
        constructor
        · show k / 2 * 2 = k; omega
        · show (k / 2 - 1) + 1 = k / 2; omega
      simp only [pthF] at h
      by_cases n0 : n = 0
      · subst n0
        by_cases m0 : m = 0
        · exact m0.symm
        · have : m.beq 0 = false := by cases m <;> simp_all [Nat.beq]
          rw [this] at h
          cases e : (Nat.mod m 2).beq 1 <;> rw [e] at h <;> simp [Nat.beq] at h
      · have hn0 : n.beq 0 = false := by cases n <;> simp_all [Nat.beq]
        rw [hn0] at h
        by_cases m0 : m = 0
        · subst m0
          cases e : (Nat.mod n 2).beq 1 <;> rw [e] at h <;> simp [Nat.beq] at h
        · have hm0 : m.beq 0 = false := by cases m <;> simp_all [Nat.beq]
          rw [hm0] at h
          cases e : (Nat.mod n 2).beq 1 <;> cases e' : (Nat.mod m 2).beq 1 <;> rw [e, e'] at h <;> simp at h
          · obtain ⟨a1, a2⟩ := mods' n n0 e
            obtain ⟨b1, b2⟩ := mods' m m0 e'
            have := ih g _ _ (by omega) (by omega) h
            omega
          · have a := mods n n0 e
            have b := mods m m0 e'
            have := ih g _ _ (by omega) (by omega) h
            omega
theorem pth_inj {n m : Nat} (h : pth n = pth m) : n = m := pthF_inj _ _ _ _ (Nat.lt_succ_self _) (Nat.lt_succ_self _) h

/-! ### Code -/
inductive KO where
  | t (p : List Bool)
  | k (v : AV)
noncomputable def KO.ev (ft : Ft) (o : KO) : AV := @KO.rec (fun _ => AV) (fun p => Ft.get p ft) (fun v => v) o
noncomputable def KO.evs (ft : Ft) (l : List KO) : List AV := @List.rec KO (fun _ => List AV) [] (fun o _ ih => o.ev ft :: ih) l

structure KOp where
  dst : Option (List Bool)
  ao : AO
  args : List KO
  guard : Option (List Bool × Bool)
  lo : Nat
  hi : Nat

inductive KC where
  | skip
  | reg (ops : List KOp)
  | draw (ops : List KOp)
  | seq (a b : KC)
  | cond (c : KO) (a b : KC)
  | block (id : Nat) (b : KC)
  | loop (b : KC)
  | exit (id : Nat)
  | ret
  | fail

inductive KV where
  | tmp (p : List Bool)
  | cell (p : List Bool) (agg : Bool) (n : Nat)
structure KFn where
  body : KC
  results : List KV

def kO (n : Nat) : Operand → Option KO
  | .tmp t => bif t.blt n then some (.t (pth t)) else none
  | x => some (.k (aeval [] x))
def kOs (n : Nat) : List Operand → Option (List KO)
  | [] => some []
  | x :: l => match kO n x, kOs n l with
    | some y, some k => some (y :: k)
    | _, _ => none
def kD (n : Nat) : Option Nat → Option (Option (List Bool))
  | none => some none
  | some d => bif d.blt n then some (some (pth d)) else none
def kG (n : Nat) : Option (Nat × Bool) → Option (Option (List Bool × Bool))
  | none => some none
  | some (d, b) => bif d.blt n then some (some (pth d, b)) else none
def kOp (n : Nat) (o : AOper) : Option KOp :=
  match kD n o.dst, kOs n o.args, kG n o.guard with
  | some d, some l, some g => some ⟨d, o.ao, l, g, o.lo, o.hi⟩
  | _, _, _ => none
def kOps (n : Nat) : List AOper → Option (List KOp)
  | [] => some []
  | x :: l => match kOp n x, kOps n l with
    | some y, some k => some (y :: k)
    | _, _ => none
def kC (n : Nat) : AC → KC
  | .skip => .skip
  | .reg ops d => match kOps n ops with
    | some l => bif d then .draw l else .reg l
    | none => .fail
  | .seq a b => .seq (kC n a) (kC n b)
  | .cond c a b => match kO n c with
    | some x => .cond x (kC n a) (kC n b)
    | none => .fail
  | .block id b => .block id (kC n b)
  | .loop b => .loop (kC n b)
  | .exit id => .exit id
  | .ret => .ret
  | .fail => .fail
def kV (n : Nat) : List RV → Option (List KV)
  | [] => some []
  | .tmp t :: l => match kV n l with
    | some k => bif t.blt n then some (.tmp (pth t) :: k) else none
    | none => none
  | .cell t agg m :: l => match kV n l with
    | some k => bif t.blt n then some (.cell (pth t) agg m :: k) else none
    | none => none
def kFn (f : AFn) : Option KFn := match kV f.ntmps f.results with
  | some r => some ⟨kC f.ntmps f.body, r⟩
  | none => none

/-! ### Meaning -/
def isB (b : Bool) (x : AV) : Bool := match x with
  | .c (.bool c) => cond b c (!c)
  | _ => false
noncomputable def wantedK (g : Option (List Bool × Bool)) (ft : Ft) : Bool := @Option.rec (List Bool × Bool) (fun _ => Bool) true (fun r => @Prod.rec _ _ (fun _ => Bool) (fun p b => isB b (Ft.get p ft)) r) g
noncomputable def putK (d : Option (List Bool)) (v : AV) (ft : Ft) : Ft := @Option.rec (List Bool) (fun _ => Ft) ft (fun p => Ft.set v p ft) d

inductive KR where
  | bad
  | n (ft : Ft) (h : H)
  | e (id : Nat) (ft : Ft) (h : H)
  | r (ft : Ft) (h : H)

noncomputable def opsK (E : Env) (C : CallF) (l : List KOp) : Ft → H → KR :=
  @List.rec KOp (fun _ => Ft → H → KR) (fun ft h => .n ft h) (fun o _ ih ft h =>
    @Bool.rec (fun _ => KR) (ih (putK o.dst (.c undef) ft) h)
      (@Option.rec (AV × H) (fun _ => KR) .bad (fun r => @Prod.rec AV H (fun _ => KR) (fun v h' => ih (putK o.dst v ft) h') r) (astep E C o.ao (KO.evs ft o.args) h))
      (wantedK o.guard ft)) l

noncomputable def drawK (E : Env) (C : CallF) (l : List KOp) : Ft → H → List H → List Chk → KR :=
  @List.rec KOp (fun _ => Ft → H → List H → List Chk → KR) (fun ft h _ _ => .n ft h) (fun o _ ih ft h vs ck =>
    @Bool.rec (fun _ => KR)
      (@Cls.rec (fun _ => KR) (ih (putK o.dst (.c undef) ft) h vs ck) (ih (putK o.dst (.c undef) ft) h vs ck) (ih (putK o.dst (.c undef) ft) h vs ck)
        (@Bool.rec (fun _ => KR) .bad (ih (putK o.dst (.c undef) ft) h (h :: vs) ck) (ck.all fun k => k.hi.ble vs.length || okAt E k.ao k.xs k.v h)) o.ao.cls)
      (@Option.rec (AV × H) (fun _ => KR) .bad (fun r => @Prod.rec AV H (fun _ => KR) (fun v h' =>
        @Cls.rec (fun _ => KR) (ih (putK o.dst v ft) h' vs ck)
          (@Bool.rec (fun _ => KR) .bad (ih (putK o.dst v ft) h' vs (⟨o.ao, KO.evs ft o.args, v, o.hi⟩ :: ck)) ((vs.take (vs.length - o.lo)).all (okAt E o.ao (KO.evs ft o.args) v)))
          (ih (putK o.dst v ft) h' vs ck)
          (@Bool.rec (fun _ => KR) .bad (ih (putK o.dst v ft) h' (h :: vs) ck) (ck.all fun k => k.hi.ble vs.length || okAt E k.ao k.xs k.v h')) o.ao.cls) r)
        (astep E C o.ao (KO.evs ft o.args) h))
      (wantedK o.guard ft)) l

noncomputable def iterK (f : Ft → H → KR) (n : Nat) : Ft → H → KR :=
  @Nat.rec (fun _ => Ft → H → KR) (fun _ _ => .bad) (fun _ ih ft h => @KR.rec (fun _ => KR) .bad (fun ft h => ih ft h) (fun id ft h => .e id ft h) (fun ft h => .r ft h) (f ft h)) n

def asB (x : AV) : Option Bool := match x with
  | .c (.bool c) => some c
  | _ => none

noncomputable def execK (E : Env) (C : CallF) (n : Nat) (c : KC) : Ft → H → KR :=
  @KC.rec (fun _ => Ft → H → KR) (fun ft h => .n ft h) (fun ops ft h => opsK E C ops ft h) (fun ops ft h => drawK E C ops ft h [] [])
    (fun _ _ iha ihb ft h => @KR.rec (fun _ => KR) .bad (fun ft h => ihb ft h) (fun id ft h => .e id ft h) (fun ft h => .r ft h) (iha ft h))
    (fun x _ _ iha ihb ft h => @Option.rec Bool (fun _ => KR) .bad (fun b => @Bool.rec (fun _ => KR) (ihb ft h) (iha ft h) b) (asB (x.ev ft)))
    (fun id _ ih ft h => @KR.rec (fun _ => KR) .bad (fun ft h => .n ft h) (fun k ft h => @Bool.rec (fun _ => KR) (.e k ft h) (.n ft h) (k.beq id)) (fun ft h => .r ft h) (ih ft h))
    (fun _ ih ft h => iterK ih n ft h) (fun id ft h => .e id ft h) (fun ft h => .r ft h) (fun _ _ => .bad) c

noncomputable def resultK (E : Env) (ft : Ft) (h : H) : List KV → Option (List AV)
  | [] => some []
  | .tmp p :: l => match resultK E ft h l with
    | some vs => some (Ft.get p ft :: vs)
    | none => none
  | .cell p agg n :: l => match rdCells E h.get (Ft.get p ft) n, resultK E ft h l with
    | some cs, some vs => bif agg then some (.agg cs :: vs) else match cs with
      | [y] => some (y :: vs)
      | _ => none
    | _, _ => none

noncomputable def ftOf (l : List AV) : Nat → Ft → Ft := @List.rec AV (fun _ => Nat → Ft → Ft) (fun _ ft => ft) (fun x _ ih i ft => ih (i + 1) (Ft.set x (pth i) ft)) l

noncomputable def doneK (E : Env) (rs : List KV) (ft : Ft) (h : H) : Option (AV × H) :=
  match resultK E ft h rs with
  | some [v] => some (v, h)
  | some vs => some (.tup vs, h)
  | none => none
noncomputable def runK (E : Env) (C : CallF) (n : Nat) (f : KFn) (xs : List AV) (h : H) : Option (AV × H) :=
  @KR.rec (fun _ => Option (AV × H)) none (fun ft h => doneK E f.results ft h) (fun _ _ _ => none) (fun ft h => doneK E f.results ft h) (execK E C n f.body (ftOf xs 0 .nil) h)

noncomputable def XK (E : Env) (S : FuncId → Option (List AV → H → Option (AV × H))) (F : FuncId → Option KFn) (n : Nat) : CallF :=
  @Nat.rec (fun _ => CallF) (fun _ _ _ => none) (fun m ih f xs h => match S f with
    | some s => s xs h
    | none => match F f with
      | some g => runK E ih (m + 1) g xs h
      | none => none) n
end Go.Sx
