/- The deterministic reading: its memory, its operations, its code. -/
import Derived.Test.YtdaicpekdnkafaaGreatDoorSxA
namespace Go.Sx
open Go Go.RowKit

/-! ### Memory -/
inductive Tr where
  | nil
  | node (l : Tr) (v : Option AB) (r : Tr)

def Tr.get : Tr → Nat → Option AB
  | .nil, _ => none
  | .node l v r, n => bif n.beq 0 then v else bif (n % 2).beq 1 then l.get (n / 2) else r.get (n / 2 - 1)

def Tr.setF : Nat → Tr → Nat → AB → Tr
  | 0, t, _, _ => t
  | f + 1, .nil, n, x => bif n.beq 0 then .node .nil (some x) .nil else bif (n % 2).beq 1 then .node (Tr.setF f .nil (n / 2) x) none .nil else .node .nil none (Tr.setF f .nil (n / 2 - 1) x)
  | f + 1, .node l v r, n, x => bif n.beq 0 then .node l (some x) r else bif (n % 2).beq 1 then .node (Tr.setF f l (n / 2) x) v r else .node l v (Tr.setF f r (n / 2 - 1) x)

theorem Tr.get_setF : ∀ (f : Nat) (t : Tr) (n : Nat) (x : AB) (m : Nat), n < f → (Tr.setF f t n x).get m = if m = n then some x else t.get m := by
  intro f
  induction f with
  | zero => intro t n x m h; omega
  | succ f ih =>
    intro t n x m h
    have key : ∀ (l : Tr) (v : Option AB) (r : Tr), (bif n.beq 0 then Tr.node l (some x) r else bif (n % 2).beq 1 then .node (Tr.setF f l (n / 2) x) v r else .node l v (Tr.setF f r (n / 2 - 1) x)).get m = if m = n then some x else (Tr.node l v r).get m := by
      intro l v r
      by_cases hn : n = 0
      · subst hn
        simp only [Nat.beq, cond_true, Tr.get]
        by_cases hm : m = 0
        · subst hm; simp
        · have : m.beq 0 = false := by cases m <;> simp_all [Nat.beq]
          simp [this, hm]
      · have h0 : n.beq 0 = false := by cases n <;> simp_all [Nat.beq]
        rcases Nat.mod_two_eq_zero_or_one n with h2 | h2
        · simp only [h0, h2, cond_false, Tr.get, Nat.beq]
          by_cases hm0 : m = 0
          · subst hm0; simp; intro e; omega
          · have hm : m.beq 0 = false := by cases m <;> simp_all [Nat.beq]
            rcases Nat.mod_two_eq_zero_or_one m with k2 | k2
            · simp only [hm, k2, cond_false, Nat.beq]
              rw [ih _ _ _ _ (by omega)]
              by_cases e : m = n
              · subst e; simp
              · rw [if_neg e, if_neg (by omega)]
            · simp only [hm, k2, cond_false, cond_true, Nat.beq]
              rw [if_neg (by intro e; omega)]
        · simp only [h0, h2, cond_false, cond_true, Tr.get, Nat.beq]
          by_cases hm0 : m = 0
          · subst hm0; simp; intro e; omega
          · have hm : m.beq 0 = false := by cases m <;> simp_all [Nat.beq]
            rcases Nat.mod_two_eq_zero_or_one m with k2 | k2
            · simp only [hm, k2, cond_false, Nat.beq]
              rw [if_neg (by intro e; omega)]
            · simp only [hm, k2, cond_false, cond_true, Nat.beq]
              rw [ih _ _ _ _ (by omega)]
              by_cases e : m = n
              · subst e; simp
              · rw [if_neg e, if_neg (by omega)]
    cases t with
    | nil =>
      have k := key .nil none .nil
      simp only [Tr.setF]
      rw [k]
      have : (Tr.node .nil none .nil).get m = Tr.nil.get m := by
        simp only [Tr.get]; cases m.beq 0 <;> cases (m % 2).beq 1 <;> rfl
      rw [this]
    | node l v r => exact key l v r

structure H where
  len : Nat
  tr : Tr

def H.get (h : H) (b : Nat) : Option AB := bif b.blt h.len then h.tr.get b else none
def H.push (h : H) (k : AB) : H := ⟨h.len + 1, Tr.setF (h.len + 1) h.tr h.len k⟩
def H.put (h : H) (b : Nat) (k : AB) : H := ⟨h.len, Tr.setF (b + 1) h.tr b k⟩
def H.empty : H := ⟨0, .nil⟩

theorem blt_iff {a b : Nat} : a.blt b = true ↔ a < b := by simp [Nat.blt, Nat.ble_eq, Nat.succ_le_iff]
theorem H.get_push (h : H) (k : AB) (b : Nat) : (h.push k).get b = if b = h.len then some k else h.get b := by
  unfold H.get H.push
  simp only []
  by_cases e : b = h.len
  · subst e
    rw [if_pos rfl, blt_iff.2 (Nat.lt_succ_self _), cond_true, Tr.get_setF _ _ _ _ _ (Nat.lt_succ_self _), if_pos rfl]
  · rw [if_neg e, Tr.get_setF _ _ _ _ _ (Nat.lt_succ_self _), if_neg e]
    by_cases hb : b < h.len
    · rw [blt_iff.2 hb, blt_iff.2 (by omega)]
    · have h1 : b.blt h.len = false := by rw [Bool.eq_false_iff]; exact fun x => hb (blt_iff.1 x)
      have h2 : b.blt (h.len + 1) = false := by rw [Bool.eq_false_iff]; exact fun x => by have := blt_iff.1 x; omega
      simp [h1, h2]
theorem H.get_put (h : H) (c : Nat) (k : AB) (b : Nat) (hc : c < h.len) : (h.put c k).get b = if b = c then some k else h.get b := by
  unfold H.get H.put
  simp only []
  rw [Tr.get_setF _ _ _ _ _ (Nat.lt_succ_self _)]
  by_cases e : b = c
  · subst e; simp [blt_iff.2 hc]
  · rw [if_neg e, if_neg e]
@[simp] theorem H.len_push (h : H) (k : AB) : (h.push k).len = h.len + 1 := rfl
@[simp] theorem H.len_put (h : H) (c : Nat) (k : AB) : (h.put c k).len = h.len := rfl
theorem H.get_lt {h : H} {b : Nat} {k : AB} (e : h.get b = some k) : b < h.len := by
  unfold H.get at e
  cases hb : b.blt h.len with
  | true => exact blt_iff.1 hb
  | false => rw [hb] at e; simp at e

/-! ### Values -/
def AV.leaf : AV → Bool
  | .c v => v.oneCell'
  | .agg _ | .tup _ => false
  | _ => true

def isC : AV → Option Value
  | .c v => some v
  | _ => none

def allC : List AV → Option (List Value)
  | [] => some []
  | x :: l => match isC x, allC l with
    | some v, some vs => some (v :: vs)
    | _, _ => none

def lower : AV → Option Value
  | .c v => some v
  | .iface t (.c v) => some (.iface t v)
  | .agg l => (allC l).map fun vs => .agg vs.toArray
  | .tup l => (allC l).map fun vs => .tuple vs.toArray
  | .fn f l k => match allC l, allC k with
    | some vs, some us => some (.func f vs.toArray us.toArray)
    | _, _ => none
  | _ => none

def norm : Value → AV
  | .agg vs => .agg (vs.toList.map .c)
  | .tuple vs => .tup (vs.toList.map .c)
  | .iface t v => .iface t (.c v)
  | .func f vs us => .fn f (vs.toList.map .c) (us.toList.map .c)
  | v => .c v

theorem norm_rel (M : BMap) (v : Value) : VRel M (norm v) v := by
  cases v with
  | agg vs => exact .agg' (LRel.consts _)
  | tuple vs => exact .tup' (LRel.consts _)
  | iface t v => exact .iface (.c v)
  | func f vs us =>
    have a := LRel.consts (M := M) vs.toList
    have b := LRel.consts (M := M) us.toList
    exact .fn (by simp) (fun i x v hx hv => a.2 i x v hx (by simpa using hv)) (by simp) (fun i x v hx hv => b.2 i x v hx (by simpa using hv))
  | _ => exact .c _

theorem isC_rel {M : BMap} {x : AV} {v u : Value} (h : isC x = some v) (r : VRel M x u) : u = v := by
  cases x <;> simp [isC] at h
  subst h; cases r; rfl
theorem allC_rel {M : BMap} : ∀ {l : List AV} {vs us : List Value}, allC l = some vs → LRel M l us → us = vs := by
  intro l
  induction l with
  | nil => intro vs us h r; simp [allC] at h; subst h; exact r.nil_inv
  | cons x l ih =>
    intro vs us h r
    obtain ⟨v, us', rfl, hv, hr⟩ := r.cons_inv
    simp only [allC] at h
    cases hx : isC x with
    | none => simp [hx] at h
    | some v' =>
      cases hl : allC l with
      | none => simp [hx, hl] at h
      | some vs' => simp [hx, hl] at h; subst h; rw [isC_rel hx hv, ih hl hr]
theorem lower_rel {M : BMap} {x : AV} {v u : Value} (h : lower x = some v) (r : VRel M x u) : u = v := by
  cases r with
  | c v' => simp [lower] at h; exact h
  | iface hr =>
    rename_i t y w
    cases y <;> simp [lower] at h
    subst h; cases hr; rfl
  | agg hn hh =>
    rename_i l vs
    simp only [lower, Option.map_eq_some_iff] at h
    obtain ⟨ws, hw, rfl⟩ := h
    have := allC_rel (M := M) (us := vs.toList) hw ⟨by simpa using hn, fun i x v hx hv => hh i x v hx (by simpa using hv)⟩
    simp [← this]
  | tup hn hh =>
    rename_i l vs
    simp only [lower, Option.map_eq_some_iff] at h
    obtain ⟨ws, hw, rfl⟩ := h
    have := allC_rel (M := M) (us := vs.toList) hw ⟨by simpa using hn, fun i x v hx hv => hh i x v hx (by simpa using hv)⟩
    simp [← this]
  | fn hn hh hn' hh' =>
    rename_i f l k vs us
    simp only [lower] at h
    cases ha : allC l with
    | none => simp [ha] at h
    | some a =>
      cases hb : allC k with
      | none => simp [ha, hb] at h
      | some b =>
        simp [ha, hb] at h
        subst h
        have e1 := allC_rel (M := M) (us := vs.toList) ha ⟨by simpa using hn, fun i x v hx hv => hh i x v hx (by simpa using hv)⟩
        have e2 := allC_rel (M := M) (us := us.toList) hb ⟨by simpa using hn', fun i x v hx hv => hh' i x v hx (by simpa using hv)⟩
        simp [← e1, ← e2]
  | _ => simp [lower] at h
theorem leaf_one {M : BMap} {x : AV} {v : Value} (h : x.leaf = true) (r : VRel M x v) : v.oneCell' = true := by
  cases r <;> simp_all [AV.leaf, Value.oneCell']

/-- What a piece of the model's own semantics gives that looks at nothing but the program. -/
def pureRun {α : Type} (P : Program) : Sem α → Option α
  | .pure a => some a
  | .program k => pureRun P (k P)
  | .mark _ k => pureRun P k
  | _ => none
theorem pureRun_run {α : Type} {P : Program} {s : Sem α} {a : α} (h : pureRun P s = some a) (w : World) : s.run P w = .ok a w := by
  induction s with
  | pure b => simp [pureRun] at h; subst h; rfl
  | program k ih => simp only [pureRun] at h; simpa [Sem.run] using ih P h
  | mark m k ih => simp only [pureRun] at h; simpa [Sem.run] using ih h
  | _ => simp [pureRun] at h

/-! ### Operations -/
inductive AO where
  | move | pick | nilCheck
  | bin (op : BinOp) (nk : Nat) (o : Oper)
  | gen (o : Oper)
  | ext (f : FuncId) (o : Oper)
  | conv (k : IntKind)
  | fieldAddr (off : Nat)
  | indexAddr (sz : Nat)
  | indexArr (n sz : Nat)
  | slice (sz : Nat) (lo hi : Bool)
  | extract (i : Nat)
  | mkIface (t : TypeId)
  | assert (t : TypeId) (z : AV) (ok : Bool)
  | mkFunc (f : Fn) (nf : Nat)
  | build (zero : List AV) (places : List (Nat × Nat))
  | field (off n : Nat) (agg : Bool)
  | len (str : Bool)
  | load (agg : Bool) (n : Nat)
  | lookup (str : Bool) (zero : AV) (ok : Bool)
  | mlen
  | b2s
  | markS
  | alloc (zero : List AV) (e : TypeId)
  | box (e : TypeId)
  | mkSl (e : TypeId) (sz n : Nat) (zero : List AV) (places : List (Nat × Nat))
  | makeSl (e : TypeId) (sz bytes : Nat) (zero : List AV)
  | makeMap
  | s2b (e : TypeId)
  | rangeS
  | store (n : Nat)
  | append (e : TypeId) (sz bytes : Nat)
  | appendZ (e : TypeId) (sz bytes : Nat) (zero : List AV)
  | copy (sz : Nat)
  | mapUpd (str : Bool)
  | delete (str : Bool)
  | clearM
  | sliceArr (n sz : Nat) (lo hi : Bool)
  | clearS (sz : Nat) (z : List AV)
  | nextS
  | usd
  | uto
  | uof (u : TypeId)
  | ustr (u : TypeId)
  | rangeM
  | nextM
  | entryM
  | call (f : FuncId)
  | callv
  | invoke (name : String)
  | fail

structure AOper where
  dst : Option Nat
  ao : AO
  args : List Operand
  guard : Option (Nat × Bool)
  lo : Nat
  hi : Nat

inductive AC where
  | skip
  | reg (ops : List AOper) (draw : Bool)
  | seq (a b : AC)
  | cond (c : Operand) (a b : AC)
  | block (id : Nat) (b : AC)
  | loop (b : AC)
  | exit (id : Nat)
  | ret
  | fail

inductive RV where
  | tmp (t : Nat)
  | cell (t : Nat) (agg : Bool) (n : Nat)

structure AFn where
  ntmps : Nat
  body : AC
  results : List RV

abbrev Fr := List AV

def aeval (fr : Fr) : Operand → AV
  | .tmp t => fr.getD t (.c undef)
  | .const v => norm v
  | .global g => .c (.pointer (some ⟨g, 0, none⟩))
  | .func f => .fn (.func f) [] []

/-- Of which operand is the i-th: for the general reading of an operation. -/
def opIdx (l : List Operand) (vs : List Value) : Operand → Value
  | .tmp t => match l, vs with
    | .tmp u :: l', v :: vs' => bif u.beq t then v else opIdx l' vs' (.tmp t)
    | _ :: l', _ :: vs' => opIdx l' vs' (.tmp t)
    | _, _ => undef
  | .const v => v
  | .global g => .pointer (some ⟨g, 0, none⟩)
  | .func f => .func (.func f) #[] #[]

/-- The cells of the memory as it was. -/
def oldCells (w : World) (a : Addr) : Nat → Nat → Option (List Value)
  | _, 0 => some []
  | i, n + 1 => match w.cell? (a.add i), oldCells w a (i + 1) n with
    | some v, some vs => some (v :: vs)
    | _, _ => none

structure Env where
  P : Program
  W0 : World
  meth : TypeId → String → Option FuncId
  okFn : FuncId → Bool
  same : FuncId → Bool
  old : Addr → Nat → Option (List Value)
  oldOk : ∀ a n vs, old a n = some vs → oldCells W0 a 0 n = some vs

def allLeaf (l : List AV) : Bool := l.all AV.leaf

/-- n cells of a block from o on. -/
def cut (l : List AV) (o n : Nat) : Option (List AV) :=
  let r := (l.drop o).take n
  bif r.length.beq n then some r else none

/-- The cells of a variable of n cells. -/
def rdCells (E : Env) (g : Nat → Option AB) (x : AV) (n : Nat) : Option (List AV) :=
  match x with
  | .ptr b o => match g b with
    | some (.cells l _) => cut l o n
    | _ => none
  | .c (.pointer (some a)) => (E.old a n).map fun vs => vs.map .c
  | _ => none

/-- The cells of a slice's elements. -/
def rdSlice (E : Env) (g : Nat → Option AB) (x : AV) (sz : Nat) : Option (Nat × List AV) :=
  match x with
  | .c (.slice none 0 _) => some (0, [])
  | .c (.slice (some a) n _) => (E.old a (n * sz)).map fun vs => (n, vs.map .c)
  | .sl b o l s => bif s.beq sz then
      bif l.beq 0 then some (0, []) else
      match g b with
      | some (.cells cs _) => (cut cs o (l * sz)).map fun r => (l, r)
      | _ => none
    else none
  | .c (.string s) => bif sz.beq 1 then some (s.size, s.data.toList.map fun b => .c (.int .u8 b.toNat)) else none
  | _ => none

def splice (l : List AV) (o : Nat) (new : List AV) : List AV := l.take o ++ new ++ l.drop (o + new.length)

def lastC (l : List AV) : AV := .c (match l with | .c v :: _ => v | _ => undef)

/-- The values of integers under an operator. -/
def binI (op : BinOp) (k : IntKind) (a : Int) (k' : IntKind) (b : Int) : Option Value :=
  match op with
  | .shl => bif decide (b < 0) then none else some (.int k (k.wrap (a * 2 ^ (min b.toNat k.bits))))
  | .shr => bif decide (b < 0) then none else some (.int k (a.fdiv (2 ^ (min b.toNat k.bits))))
  | .add => bif decide (k = k') then some (.int k (k.wrap (a + b))) else none
  | .sub => bif decide (k = k') then some (.int k (k.wrap (a - b))) else none
  | .mul => bif decide (k = k') then some (.int k (k.wrap (a * b))) else none
  | .quo => bif decide (k = k') && !decide (b = 0) then some (.int k (k.wrap (a.tdiv b))) else none
  | .rem => bif decide (k = k') && !decide (b = 0) then some (.int k (a.tmod b)) else none
  | .and => bif decide (k = k') then some (.int k (k.wrap (BitVec.ofInt k.bits a &&& BitVec.ofInt k.bits b).toNat)) else none
  | .or => bif decide (k = k') then some (.int k (k.wrap (BitVec.ofInt k.bits a ||| BitVec.ofInt k.bits b).toNat)) else none
  | .xor => bif decide (k = k') then some (.int k (k.wrap (BitVec.ofInt k.bits a ^^^ BitVec.ofInt k.bits b).toNat)) else none
  | .andNot => bif decide (k = k') then some (.int k (k.wrap (BitVec.ofInt k.bits a &&& ~~~BitVec.ofInt k.bits b).toNat)) else none
  | .eql => bif decide (k = k') then some (.bool (a == b)) else none
  | .neq => bif decide (k = k') then some (.bool (a != b)) else none
  | .lss => bif decide (k = k') then some (.bool (a < b)) else none
  | .leq => bif decide (k = k') then some (.bool (a ≤ b)) else none
  | .gtr => bif decide (k = k') then some (.bool (a > b)) else none
  | .geq => bif decide (k = k') then some (.bool (a ≥ b)) else none

/-- Is it a reference that is not nil? Is it nil? -/
def refKind : AV → Nat
  | .ptr _ _ => 1
  | .sl _ _ _ _ => 2
  | .mp _ => 3
  | .iface _ _ => 4
  | .fn _ _ _ => 5
  | _ => 0
def nilKind : AV → Nat
  | .c (.pointer none) => 1
  | .c (.slice none _ _) => 2
  | .c (.map none) => 3
  | .c .nilIface => 4
  | .c .nilFunc => 5
  | _ => 6

def fillA (cells : List AV) : List (Nat × Nat) → List AV → Option (List AV)
  | [], [] => some cells
  | (off, n) :: ps, x :: xs =>
    let cs := x.cells
    bif cs.length.beq n && (off + n).ble cells.length then fillA (splice cells off cs) ps xs else none
  | _, _ => none

/-- Where a key stands. str: keys are texts (else whole numbers). -/
def keySame : Bool → Value → Value → Option Bool
  | false, .int k a, .int k' b => bif decide (k = k') then some (a == b) else none
  | true, .string a, .string b => some (a == b)
  | _, _, _ => none
def findA (str : Bool) (k : Value) : List (Value × AV × Nat) → Nat → Option (Option (Nat × AV))
  | [], _ => some none
  | e :: es, i => match keySame str k e.1 with
    | some true => some (some (i, e.2.1))
    | some false => findA str k es (i + 1)
    | none => none
def plainKey : Bool → Value → Bool
  | false, .int _ _ => true
  | true, .string _ => true
  | _, _ => false

/-- Two values under an operator, whatever they are. -/
def binG (E : Env) (op : BinOp) (nk : Nat) (o : Oper) (x y : AV) : Option AV :=
  match lower x, lower y with
  | some u, some v => match o.op with
    | .binOp op' t X Y _ => (pureRun E.P (do eqGuard op' t X Y u v; binOp op' t u v)).map norm
    | _ => none
  | _, _ =>
    bif !nk.beq 0 && ((refKind x).beq nk && (nilKind y).beq nk || (refKind y).beq nk && (nilKind x).beq nk) then
      match op with
      | .eql => some (.c (.bool false))
      | .neq => some (.c (.bool true))
      | _ => none
    else none

/-- A bound of a slice expression: is there one? -/
def sbnd (b : Bool) (r : List AV) (d : Nat) : Option (Nat × List AV) :=
  match b, r with
  | true, .c (.int _ i) :: r' => bif decide (0 ≤ i) then some (i.toNat, r') else none
  | true, _ => none
  | false, r => some (d, r)

/-- The operations that look at no memory. -/
def pstep (E : Env) (o : AO) (xs : List AV) : Option AV :=
  match o, xs with
  | .move, [x] => some x
  | .pick, [.c (.bool b), x, y] => some (bif b then x else y)
  | .nilCheck, [x] => match x with
    | .ptr _ _ => some x
    | .c (.pointer (some _)) => some x
    | .iface _ _ => some x
    | .fn (.func _) _ _ => some x
    | .fn (.method n) [.iface t _] [] => match E.meth t n with
      | some _ => some x
      | none => none
    | _ => none
  | .bin op nk o, [x, y] => match x, y with
    | .c (.int k a), .c (.int k' b) => (binI op k a k' b).map .c
    | _, _ => binG E op nk o x y
  | .gen o, xs => match allLower xs with
    | some vs => match pureRun E.P (execOp (opIdx o.op.operands.toList vs) o) with
      | some (.value v) => some (norm v)
      | _ => none
    | none => none
  | .ext f o, xs => bif E.same f then (match xs with
      | [_, x] => some x
      | _ => none)
    else match allLower xs with
    | some vs => match pureRun E.P (execOp (opIdx o.op.operands.toList vs) o) with
      | some (.value v) => some (norm v)
      | _ => none
    | none => none
  | .conv k, [.c (.int _ n)] => some (.c (.int k (k.wrap n)))
  | .fieldAddr off, [x] => match x with
    | .ptr b o => some (.ptr b (o + off))
    | .c (.pointer (some a)) => bif a.spot.isNone then some (.c (.pointer (some (a.add off)))) else none
    | _ => none
  | .indexAddr sz, [x, .c (.int _ i)] => match x with
    | .sl b o l s => bif s.beq sz && decide (0 ≤ i) && decide (i < l) then some (.ptr b (o + i.toNat * sz)) else none
    | .c (.slice (some a) l _) => bif decide (0 ≤ i) && decide (i < l) then some (.c (.pointer (some (a.add (i.toNat * sz))))) else none
    | _ => none
  | .indexArr n sz, [x, .c (.int _ i)] => match x with
    | .ptr b o => bif decide (0 ≤ i) && decide (i < n) then some (.ptr b (o + i.toNat * sz)) else none
    | .c (.pointer (some a)) => bif decide (0 ≤ i) && decide (i < n) then some (.c (.pointer (some (a.add (i.toNat * sz))))) else none
    | _ => none
  | .slice sz lo hi, x :: r =>
    match x with
    | .sl b o l s => match sbnd lo r 0 with
      | some (p, r') => match sbnd hi r' l with
        | some (q, []) => bif s.beq sz && p.ble q && q.ble l then some (.sl b (o + p * sz) (q - p) sz) else none
        | _ => none
      | none => none
    | .c (.slice none 0 0) => match sbnd lo r 0 with
      | some (0, r') => match sbnd hi r' 0 with
        | some (0, []) => some (.c (.slice none 0 0))
        | _ => none
      | _ => none
    | .c (.slice (some a) l cap) => match sbnd lo r 0 with
      | some (p, r') => match sbnd hi r' l with
        | some (q, []) => bif p.ble q && q.ble l && l.ble cap then some (.c (.slice (some (bif cap.beq p then a else a.add (p * sz))) (q - p) (cap - p))) else none
        | _ => none
      | none => none
    | _ => none
  | .extract i, [.tup l] => l[i]?
  | .mkIface t, [x] => some (.iface t x)
  | .assert t z ok, [x] => match x with
    | .iface u y => bif u.beq t then some (bif ok then .tup [y, .c (.bool true)] else y) else bif ok then some (.tup [z, .c (.bool false)]) else none
    | .c .nilIface => bif ok then some (.tup [z, .c (.bool false)]) else none
    | _ => none
  | .mkFunc f nf, xs => some (.fn f (xs.take nf) (xs.drop nf))
  | .build z ps, xs => (fillA z ps xs).map .agg
  | .field off n agg, [.agg l] => bif agg then (cut l off n).map .agg else l[off]?
  | .len true, [x] => match x with
    | .c (.string s) => some (.c (.int .i64 s.size))
    | _ => none
  | .len false, [x] => match x with
    | .sl _ _ l _ => some (.c (.int .i64 l))
    | .c (.slice _ l _) => some (.c (.int .i64 l))
    | _ => none
  | .usd, [x] => match x with
    | .sl b o l _ => bif l.beq 0 then none else some (.ptr b o)
    | .c (.slice none _ _) => some (.c (.pointer none))
    | _ => none
  | _, _ => none
where
  allLower : List AV → Option (List Value)
    | [] => some []
    | x :: l => match lower x, allLower l with
      | some v, some vs => some (v :: vs)
      | _, _ => none

/-- The bytes that some cells hold. -/
def bytesA : List AV → Option (List UInt8)
  | [] => some []
  | .c (.int .u8 n) :: l => match bytesA l with
    | some r => some (UInt8.ofNat n.toNat :: r)
    | none => none
  | _ => none
def b2sA (E : Env) (g : Nat → Option AB) (x : AV) : Option AV :=
  match rdSlice E g x 1 with
  | some (_, l) => match bytesA l with
    | some bs => some (.c (.string ⟨bs.toArray⟩))
    | none => none
  | none => none

/-- The operations that only read. -/
def lstep (E : Env) (o : AO) (xs : List AV) (g : Nat → Option AB) : Option AV :=
  match o, xs with
  | .load agg n, [x] => match rdCells E g x n with
    | some l => bif agg then some (.agg l) else match l with
      | [y] => some y
      | _ => none
    | none => none
  | .lookup str z ok, [m, .c k] => bif plainKey str k then
      match m with
      | .c (.map none) => some (bif ok then .tup [z, .c (.bool false)] else z)
      | .mp b => match g b with
        | some (.map es _) => match findA str k es 0 with
          | some (some (_, v)) => some (bif ok then .tup [v, .c (.bool true)] else v)
          | some none => some (bif ok then .tup [z, .c (.bool false)] else z)
          | none => none
        | _ => none
      | _ => none
    else none
  | .mlen, [m] => match m with
    | .c (.map none) => some (.c (.int .i64 0))
    | .mp b => match g b with
      | some (.map es _) => some (.c (.int .i64 es.length))
      | _ => none
    | _ => none
  | .b2s, [x] => match x with
    | .c (.string _) => none
    | _ => b2sA E g x
  | .sliceArr n sz lo hi, x :: r => match x with
    | .ptr b o => match g b with
      | some (.cells cs _) => match sbnd lo r 0 with
        | some (p, r') => match sbnd hi r' n with
          | some (q, []) => bif p.ble q && q.ble n && (o + n * sz).ble cs.length then some (.sl b (o + p * sz) (q - p) sz) else none
          | _ => none
        | none => none
      | _ => none
    | _ => none
  | .markS, [x] => match x with
    | .sl b _ _ _ => match g b with
      | some (.cells _ _) => some x
      | _ => none
    | _ => none
  | .uto, [x] => match x with
    | .ptr b o => match g b with
      | some (.cells l _) => bif o.blt l.length then some x else none
      | _ => none
    | .c (.pointer none) => some x
    | _ => none
  | .uof u, [x] => match x with
    | .ptr b o => match g b with
      | some (.cells l e) => bif (e % 2).beq 1 && liesAt E.P E.P.depth (e / 2) (l.length / E.P.cellsOf (e / 2)) o u 1 then some x else none
      | _ => none
    | .c (.pointer none) => some x
    | _ => none
  | .entryM, [.ptr b 0] => match g b with
    | some (.miter (some m) _ seen st) => match seen.getLast? with
      | some n => match g m with
        | some (.map es clock) => bif clock.beq st then match es.find? (fun e => e.2.2.beq n) with
            | some (k, x, _) => some (.tup [.c k, x])
            | none => none
          else none
        | _ => none
      | none => none
    | _ => none
  | _, _ => none

/-- The operations that lay a block: the block, and what stands for it. -/
def astepNew (o : AO) (xs : List AV) (b : Nat) : Option (AB × AV) :=
  match o, xs with
  | .alloc z e, [] => bif allLeaf z then some (.cells z (2 * e + 1), .ptr b 0) else none
  | .box e, [x] => bif allLeaf x.cells then some (.cells x.cells (2 * e), .ptr b 0) else none
  | .mkSl e sz n z ps, xs => match fillA z ps xs with
    | some cs => bif allLeaf cs && cs.length.beq (n * sz) then some (.cells cs (2 * e), .sl b 0 n sz) else none
    | none => none
  | .makeSl e sz bytes z, [.c (.int .i64 n), .c (.int .i64 c)] =>
    bif decide (0 ≤ n) && decide (n ≤ c) && decide (c * bytes ≤ 2 ^ 48) && decide (c < 2 ^ 62) && allLeaf z && z.length.beq sz then
      some (.cells ((List.replicate n.toNat z).flatten) (2 * e), .sl b 0 n.toNat sz)
    else none
  | .makeMap, [] => some (.map [] 0, .mp b)
  | .s2b e, [.c (.string s)] => some (.cells (s.data.toList.map fun x => .c (.int .u8 x.toNat)) (2 * e), .sl b 0 s.size 1)
  | .rangeS, [.c (.string s)] => some (.siter s 0, .ptr b 0)
  | _, _ => none

def isStrA : AV → Bool
  | .c (.string _) => true
  | _ => false

/-- n new elements behind a slice's. -/
def appendTo (e : TypeId) (sz bytes : Nat) (s : AV) (n : Nat) (new : List AV) (h : H) : Option (AV × H) :=
  match s with
  | .c (.slice none 0 0) =>
    bif n.beq 0 then some (s, h)
    else bif decide ((2 * n + 1000) * bytes ≤ 2 ^ 48) && allLeaf new && new.length.beq (n * sz) then some (.sl h.len 0 n sz, h.push (.cells new (2 * e))) else none
  | .sl b o l s' => match h.get b with
    | some (.cells cs e') =>
      bif n.beq 0 then some (s, h) else
      bif s'.beq sz && decide (2 * e = e') && (o + l * sz).beq cs.length && decide ((2 * (l + n) + 1000) * bytes ≤ 2 ^ 48) && allLeaf new && new.length.beq (n * sz) then
        some (.sl h.len 0 (l + n) sz, (h.put b .dead).push (.cells (cs.drop o ++ new) (2 * e)))
      else none
    | _ => none
  | _ => none

/-- The operations that write. -/
def wstep (E : Env) (o : AO) (xs : List AV) (h : H) : Option (AV × H) :=
  match o, xs with
  | .store n, [.ptr b k, x] => match h.get b with
    | some (.cells l e) => bif x.cells.length.beq n && (k + n).ble l.length && allLeaf x.cells then some (.c undef, h.put b (.cells (splice l k x.cells) e)) else none
    | _ => none
  | .append e sz bytes, [s, x] => match rdSlice E h.get x sz with
    | some (n, new) => appendTo e sz bytes s n new h
    | none => none
  | .appendZ e sz bytes z, [s, .c (.int .i64 i)] => bif decide (0 ≤ i) && decide (i < 2 ^ 48) && decide (i * bytes ≤ 2 ^ 48) && z.length.beq sz then appendTo e sz bytes s i.toNat ((List.replicate i.toNat z).flatten) h else none
  | .copy sz, [.sl b o l s', x] => match (bif isStrA x then none else rdSlice E h.get x sz) with
    | some (n, new) => match h.get b with
      | some (.cells cs e) =>
        let m := min n l
        let new' := new.take (m * sz)
        bif s'.beq sz && (o + m * sz).ble cs.length && allLeaf new' && new'.length.beq (m * sz) then some (.c (.int .i64 m), h.put b (.cells (splice cs o new') e)) else none
      | _ => none
    | none => none
  | .mapUpd str, [.mp b, .c k, x] => bif plainKey str k then
      match h.get b with
      | some (.map es clock) => match findA str k es 0 with
        | some (some (i, _)) => match es[i]? with
          | some (_, _, born) => some (.c undef, h.put b (.map (es.set i (k, x, born)) clock))
          | none => none
        | some none => some (.c undef, h.put b (.map (es ++ [(k, x, clock)]) (clock + 1)))
        | none => none
      | _ => none
    else none
  | .delete str, [m, .c k] => bif plainKey str k then
      match m with
      | .mp b => match h.get b with
        | some (.map es clock) => match findA str k es 0 with
          | some (some (i, _)) => some (.tup [], h.put b (.map (es.eraseIdx i) clock))
          | some none => some (.tup [], h.put b (.map es clock))
          | none => none
        | _ => none
      | _ => none
    else none
  | .clearM, [.mp b] => match h.get b with
    | some (.map _ clock) => some (.tup [], h.put b (.map [] clock))
    | _ => none
  | .clearS sz z, [x] => match x with
    | .c (.slice none _ _) => some (.tup [], h)
    | .sl b o l s => match h.get b with
      | some (.cells cs e) => bif s.beq sz && (o + l * sz).ble cs.length && allLeaf z && z.length.beq sz then some (.tup [], h.put b (.cells (splice cs o ((List.replicate l z).flatten)) e)) else none
      | _ => none
    | _ => none
  | .nextS, [.ptr b 0] => match h.get b with
    | some (.siter s p) =>
      bif p.blt s.size then
        let r := Utf8.decode s p
        some (.tup [.c (.bool true), .c (.int .i64 p), .c (.int .i32 r.1)], h.put b (.siter s (p + r.2)))
      else some (.tup [.c (.bool false)], h)
    | _ => none
  | .ustr u, [x, .c (.int _ n)] => match x with
    | .c (.pointer none) => bif decide (n = 0) then some (.c (.string .empty), h) else none
    | .ptr b o => bif decide (n = 0) then some (.c (.string .empty), h) else
      bif decide (0 ≤ n) && decide (n < 2 ^ 48) then
        match h.get b with
        | some (.cells l e) => bif (e / 2).beq u then match cut l o n.toNat with
            | some r => match bytesA r with
              | some bs => some (.c (.string ⟨bs.toArray⟩), h.put b .dead)
              | none => none
            | none => none
          else none
        | _ => none
      else none
    | _ => none
  | .rangeM, [m] => match m with
    | .c (.map none) => some (.ptr h.len 0, h.push (.miter none 0 [] 0))
    | .mp b => match h.get b with
      | some (.map _ clock) => some (.ptr h.len 0, h.push (.miter (some b) clock [] clock))
      | _ => none
    | _ => none
  | .nextM, [.ptr b 0] => match h.get b with
    | some (.miter none _ _ _) => some (.tup [.c (.bool false)], h)
    | some (.miter (some m) since seen last) => match h.get m with
      | some (.map es clock) =>
        bif !seen.isEmpty && !es.isEmpty && es.all (fun e => last.ble e.2.2) then none else
        match es.filter (fun e => !seen.contains e.2.2) with
        | [] => some (.tup [.c (.bool false)], h)
        | [(k, x, n)] => bif n.blt since then some (.tup [.c (.bool true), .c k, x], h.put b (.miter (some m) since (seen ++ [n]) clock)) else none
        | _ => none
      | _ => none
    | _ => none
  | _, _ => none

inductive Cls where
  | p | l | a | w
def AO.cls : AO → Cls
  | .load .. | .lookup .. | .mlen | .b2s | .markS | .sliceArr .. | .uto | .uof .. | .entryM => .l
  | .alloc .. | .box .. | .mkSl .. | .makeSl .. | .makeMap | .s2b .. | .rangeS => .a
  | .store .. | .append .. | .appendZ .. | .copy .. | .mapUpd .. | .delete .. | .clearM | .clearS .. | .nextS | .ustr .. | .rangeM | .nextM | .call .. | .callv | .invoke .. => .w
  | _ => .p

abbrev CallF := FuncId → List AV → H → Option (AV × H)

/-- Which function is called, with which arguments. -/
def callTarget (E : Env) (o : AO) (xs : List AV) : Option (FuncId × List AV) :=
  match o, xs with
  | .call f, xs => bif E.okFn f then some (f, xs) else none
  | .callv, .fn (.func f) first caps :: xs => bif E.okFn f then some (f, first ++ xs ++ caps) else none
  | .callv, .fn (.method name) [.iface t x] [] :: xs => match E.meth t name with
    | some f => bif E.okFn f then some (f, x :: xs) else none
    | none => none
  | .invoke name, .iface t x :: xs => match E.meth t name with
    | some f => bif E.okFn f then some (f, x :: xs) else none
    | none => none
  | _, _ => none

def astep (E : Env) (C : CallF) (o : AO) (xs : List AV) (h : H) : Option (AV × H) :=
  match o.cls with
  | .p => (pstep E o xs).map fun v => (v, h)
  | .l => (lstep E o xs h.get).map fun v => (v, h)
  | .a => (astepNew o xs h.len).map fun r => (r.2, h.push r.1)
  | .w => match callTarget E o xs with
    | some (f, ys) => C f ys h
    | none => wstep E o xs h

def wantedA (o : AOper) (fr : Fr) : Bool :=
  match o.guard with
  | none => true
  | some (t, want) => match fr[t]? with
    | some (.c (.bool b)) => b == want
    | _ => false

def putA (fr : Fr) (dst : Option Nat) (v : AV) : Fr :=
  match dst with
  | some d => fr.set d v
  | none => fr

def execOps (E : Env) (C : CallF) : List AOper → Fr → H → Option (Fr × H)
  | [], fr, h => some (fr, h)
  | o :: rest, fr, h =>
    match wantedA o fr with
    | true => match astep E C o.ao (o.args.map (aeval fr)) h with
      | some (v, h') => execOps E C rest (putA fr o.dst v) h'
      | none => none
    | false => execOps E C rest (putA fr o.dst (.c undef)) h

def sameC : Value → Value → Bool
  | .int k a, .int k' b => decide (k = k') && decide (a = b)
  | .bool a, .bool b => a == b
  | .string a, .string b => decide (a = b)
  | .pointer a, .pointer b => decide (a = b)
  | .slice a l c, .slice b l' c' => decide (a = b) && decide (l = l') && decide (c = c')
  | .map a, .map b => decide (a = b)
  | .nilIface, .nilIface => true
  | .nilFunc, .nilFunc => true
  | _, _ => false
def same1 : AV → AV → Bool
  | .c v, .c u => sameC v u
  | .ptr b o, .ptr b' o' => b.beq b' && o.beq o'
  | .sl b o l s, .sl b' o' l' s' => b.beq b' && o.beq o' && l.beq l' && s.beq s'
  | .mp b, .mp b' => b.beq b'
  | _, _ => false
def sameL : List AV → List AV → Bool
  | [], [] => true
  | x :: l, y :: k => same1 x y && sameL l k
  | _, _ => false
def same : AV → AV → Bool
  | .agg l, .agg k => sameL l k
  | .tup l, .tup k => sameL l k
  | .iface t x, .iface u y => t.beq u && same1 x y
  | x, y => same1 x y

structure Chk where
  ao : AO
  xs : List AV
  v : AV
  hi : Nat

def okAt (E : Env) (ao : AO) (xs : List AV) (v : AV) (h : H) : Bool :=
  match lstep E ao xs h.get with
  | some u => same u v
  | none => false

/-- A region whose order is open: in the text's order, and each read is asked of every memory that it may meet. -/
def execD (E : Env) (C : CallF) : List AOper → Fr → H → List H → List Chk → Option (Fr × H)
  | [], fr, h, _, _ => some (fr, h)
  | o :: rest, fr, h, vs, ck =>
    match wantedA o fr with
    | true =>
      let xs := o.args.map (aeval fr)
      match astep E C o.ao xs h with
      | some (v, h') =>
        match o.ao.cls with
        | .p => execD E C rest (putA fr o.dst v) h' vs ck
        | .a => execD E C rest (putA fr o.dst v) h' vs ck
        | .l => bif (vs.take (vs.length - o.lo)).all (okAt E o.ao xs v) then execD E C rest (putA fr o.dst v) h' vs (⟨o.ao, xs, v, o.hi⟩ :: ck) else none
        | .w => bif ck.all (fun k => k.hi.ble vs.length || okAt E k.ao k.xs k.v h') then execD E C rest (putA fr o.dst v) h' (h :: vs) ck else none
      | none => none
    | false => match o.ao.cls with
      | .w => bif ck.all (fun k => k.hi.ble vs.length || okAt E k.ao k.xs k.v h) then execD E C rest (putA fr o.dst (.c undef)) h (h :: vs) ck else none
      | _ => execD E C rest (putA fr o.dst (.c undef)) h vs ck

inductive AExit where
  | normal
  | exit (id : Nat)
  | ret

def iter (f : Fr → H → Option (AExit × Fr × H)) : Nat → Fr → H → Option (AExit × Fr × H)
  | 0, _, _ => none
  | n + 1, fr, h => match f fr h with
    | some (.normal, fr', h') => iter f n fr' h'
    | r => r

def exec (E : Env) (C : CallF) (n : Nat) : AC → Fr → H → Option (AExit × Fr × H)
  | .skip, fr, h => some (.normal, fr, h)
  | .reg ops d, fr, h => match (bif d then execD E C ops fr h [] [] else execOps E C ops fr h) with
    | some (fr', h') => some (.normal, fr', h')
    | none => none
  | .seq a b, fr, h => match exec E C n a fr h with
    | some (.normal, fr', h') => exec E C n b fr' h'
    | r => r
  | .cond c a b, fr, h => match aeval fr c with
    | .c (.bool true) => exec E C n a fr h
    | .c (.bool false) => exec E C n b fr h
    | _ => none
  | .block id b, fr, h => match exec E C n b fr h with
    | some (.exit k, fr', h') => bif k.beq id then some (.normal, fr', h') else some (.exit k, fr', h')
    | r => r
  | .loop b, fr, h => iter (exec E C n b) n fr h
  | .exit id, fr, h => some (.exit id, fr, h)
  | .ret, fr, h => some (.ret, fr, h)
  | .fail, _, _ => none

def result1 (E : Env) (fr : Fr) (h : H) : RV → Option AV
  | .tmp t => fr[t]?
  | .cell t agg n => match rdCells E h.get (fr.getD t (.c undef)) n with
    | some l => bif agg then some (.agg l) else match l with
      | [y] => some y
      | _ => none
    | none => none
def resultL (E : Env) (fr : Fr) (h : H) : List RV → Option (List AV)
  | [] => some []
  | r :: rs => match result1 E fr h r, resultL E fr h rs with
    | some v, some vs => some (v :: vs)
    | _, _ => none

def runFn (E : Env) (C : CallF) (n : Nat) (f : AFn) (xs : List AV) (h : H) : Option (AV × H) :=
  match exec E C n f.body (xs ++ List.replicate (f.ntmps - xs.length) (.c undef)) h with
  | some (.exit _, _, _) => none
  | some (_, fr, h') => match resultL E fr h' f.results with
    | some [v] => some (v, h')
    | some vs => some (.tup vs, h')
    | none => none
  | none => none

/-- The meaning of all functions, by depth. S: what is known of some of them. -/
def X (E : Env) (S : FuncId → Option (List AV → H → Option (AV × H))) (F : FuncId → Option AFn) : Nat → CallF
  | 0, _, _, _ => none
  | n + 1, f, xs, h => match S f with
    | some s => s xs h
    | none => match F f with
      | some g => runFn E (X E S F n) (n + 1) g xs h
      | none => none
end Go.Sx
