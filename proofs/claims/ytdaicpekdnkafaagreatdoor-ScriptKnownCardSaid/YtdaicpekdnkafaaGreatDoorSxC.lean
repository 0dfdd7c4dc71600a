/- From the model's code to the deterministic reading's. -/
import Derived.Test.YtdaicpekdnkafaaGreatDoorSxB
namespace Go.Sx
open Go Go.RowKit

/-- The cells of a type's zero value. -/
def zeroOf (P : Program) (t : TypeId) : Option (List AV) := ((P.info? t).bind (·.zero)).map fun v => v.cells.toList.map .c
def zeroV (P : Program) (t : TypeId) : Option AV := ((P.info? t).bind (·.zero)).map norm
def sizeP (P : Program) (t : TypeId) : Option Nat := (P.info? t).map (·.size)
def isAggD : TypeDesc → Bool
  | .struct _ | .array _ _ => true
  | _ => false
def fieldPlaces (P : Program) : List Field → Option (List (Nat × Nat))
  | [] => some []
  | f :: fs => match sizeP P f.type, fieldPlaces P fs with
    | some n, some r => some ((f.offset, n) :: r)
    | _, _ => none
def pickPlaces (pl : List (Nat × Nat)) : List (Nat × Operand) → Option (List (Nat × Nat))
  | [] => some []
  | (i, _) :: r => match pl[i]?, pickPlaces pl r with
    | some p, some q => some (p :: q)
    | _, _ => none
def keyDesc : TypeDesc → Bool
  | .int _ | .string => true
  | _ => false
def isStrD : TypeDesc → Bool
  | .string => true
  | _ => false
def isIntD : TypeDesc → Bool
  | .int _ => true
  | _ => false
def isIfaceD : TypeDesc → Bool
  | .interface _ => true
  | _ => false

def nilKindD : TypeDesc → Nat
  | .pointer _ => 1
  | .slice _ => 2
  | .map _ _ => 3
  | .interface _ => 4
  | .func _ _ _ => 5
  | _ => 0

def compCall (P : Program) (c : Call) : Option (AO × List Operand) :=
  match c.callee with
  | .value (.func f) => some (.call f, c.args.toList)
  | .value x => some (.callv, x :: c.args.toList)
  | .invoke r name => some (.invoke name, r :: c.args.toList)
  | .builtin b => match b with
    | .len => match c.args.toList, c.argTypes[0]? with
      | [x], some t => match P.underlying t with
        | some .string => some (.len true, [x])
        | some (.slice _) => some (.len false, [x])
        | some (.map _ _) => some (.mlen, [x])
        | _ => none
      | _, _ => none
    | .append => match c.args.toList, c.argTypes[0]?, c.argTypes[1]? with
      | [s, x], some t, some u => match P.underlying t, P.underlying u with
        | some (.slice e), some d => match P.info? e, zeroOf P e with
          | some i, some z => bif !i.bytes.beq 0 && z.length.beq i.size then some (bif isIntD d then .appendZ e i.size i.bytes z else .append e i.size i.bytes, [s, x]) else none
          | _, _ => none
        | _, _ => none
      | _, _, _ => none
    | .copy => match c.args.toList, c.argTypes[0]? with
      | [s, x], some t => match P.underlying t with
        | some (.slice e) => (sizeP P e).map fun n => (.copy n, [s, x])
        | _ => none
      | _, _ => none
    | .delete => match c.args.toList, c.argTypes[0]? with
      | [m, k], some t => match P.underlying t with
        | some (.map kt _) => match P.underlying kt with
          | some d => bif keyDesc d then some (.delete (isStrD d), [m, k]) else none
          | none => none
        | _ => none
      | _, _ => none
    | .clear => match c.args.toList, c.argTypes[0]? with
      | [m], some t => match P.underlying t with
        | some (.map _ _) => some (.clearM, [m])
        | some (.slice e) => match sizeP P e, zeroOf P e with
          | some n, some z => some (.clearS n z, [m])
          | _, _ => none
        | _ => none
      | _, _ => none
    | _ => none

def compOp0 (P : Program) (o : Oper) : Option (AO × List Operand) :=
  match o.op with
  | .move x | .assign x => some (.move, [x])
  | .pick c a b => some (.pick, [c, a, b])
  | .nilCheck x => some (.nilCheck, [x])
  | .alloc e => (zeroOf P e).map fun z => (.alloc z e, [])
  | .box e x => some (.box e, [x])
  | .build t parts => match P.underlying t, zeroOf P t with
    | some (.struct fs), some z => match fieldPlaces P fs.toList with
      | some pl => match pickPlaces pl parts.toList with
        | some ps => some (.build z ps, parts.toList.map (·.2))
        | none => none
      | none => none
    | some (.array _ e), some z => match sizeP P e with
      | some n => some (.build z (parts.toList.map fun p => (p.1 * n, n)), parts.toList.map (·.2))
      | none => none
    | _, _ => none
  | .buildSlice t n parts => match P.underlying t with
    | some (.slice e) => match sizeP P e, zeroOf P e with
      | some s, some z => bif (n * s).ble (2 ^ 24) && z.length.beq s then
          some (.mkSl e s n ((List.replicate n z).flatten) (parts.toList.map fun p => (p.1 * s, s)), parts.toList.map (·.2)) else none
      | _, _ => none
    | _ => none
  | .load t a => match P.underlying t, sizeP P t with
    | some d, some n => bif isAggD d then some (.load true n, [a]) else bif n.beq 1 then some (.load false 1, [a]) else none
    | _, _ => none
  | .store t a x => (sizeP P t).map fun n => (.store n, [a, x])
  | .binOp op t x y _ => some (.bin op (match P.underlying t with | some d => nilKindD d | none => 0) o, [x, y])
  | .unOp _ _ x => some (.gen o, [x])
  | .convert s d x => match P.underlying s, P.underlying d with
    | some _, some (.int k) => some (.conv k, [x])
    | some (.slice e), some .string => match P.underlying e with
      | some (.int .u8) => some (.b2s, [x])
      | _ => none
    | some .string, some (.slice e) => match P.underlying e with
      | some (.int .u8) => some (.s2b e, [x])
      | _ => none
    | some (.slice _), some (.slice e) => match P.underlying e with
      | some (.int .u8) => bif s.beq d then some (.markS, [x]) else none
      | _ => none
    | some _, some _ => some (.gen o, [x])
    | _, _ => none
  | .makeInterface t x => match P.underlying t with
    | some d => bif isIfaceD d then none else some (.mkIface t, [x])
    | none => none
  | .typeAssert x _ t ok => match P.underlying t, zeroV P t with
    | some d, some z => bif isIfaceD d then none else some (.assert t z ok, [x])
    | _, _ => none
  | .makeFunc fn first caps => some (.mkFunc fn first.size, first.toList ++ caps.toList)
  | .makeMap _ none => some (.makeMap, [])
  | .makeSlice t l c => match P.underlying t with
    | some (.slice e) => match P.info? e, zeroOf P e with
      | some i, some z => some (.makeSl e i.size i.bytes z, [l, c])
      | _, _ => none
    | _ => none
  | .slice t x lo hi none => match P.underlying t with
    | some .string => some (.gen o, x :: lo.toList ++ hi.toList)
    | some (.slice e) => (sizeP P e).map fun n => (.slice n lo.isSome hi.isSome, x :: lo.toList ++ hi.toList)
    | _ => none
  | .fieldAddr s x f => match P.underlying s with
    | some (.struct fs) => match fs[f]? with
      | some fd => match sizeP P fd.type with
        | some n => bif n.beq 0 then none else some (.fieldAddr fd.offset, [x])
        | none => none
      | none => none
    | _ => none
  | .field t x f => match P.underlying t with
    | some (.struct fs) => match fs[f]? with
      | some fd => match P.underlying fd.type, sizeP P fd.type with
        | some d, some n => some (.field fd.offset n (isAggD d), [x])
        | _, _ => none
      | none => none
    | _ => none
  | .indexAddr t x ix => match P.underlying t with
    | some (.slice e) => (sizeP P e).map fun n => (.indexAddr n, [x, ix])
    | some (.array len e) => (sizeP P e).map fun n => (.indexArr len n, [x, ix])
    | _ => none
  | .index _ x ix => some (.gen o, [x, ix])
  | .lookup t m k ok => match P.underlying t with
    | some (.map kt e) => match P.underlying kt, zeroV P e with
      | some d, some z => bif keyDesc d then some (.lookup (isStrD d) z ok, [m, k]) else none
      | _, _ => none
    | _ => none
  | .mapUpdate t m k x | .insert t m k x => match P.underlying t with
    | some (.map kt _) => match P.underlying kt with
      | some d => bif keyDesc d then some (.mapUpd (isStrD d), [m, k, x]) else none
      | none => none
    | _ => none
  | .range t x => match P.underlying t with
    | some .string => some (.rangeS, [x])
    | _ => none
  | .next it true => some (.nextS, [it])
  | .extract t i => some (.extract i, [t])
  | .call c => match c.callee with
    | .builtin .min | .builtin .max => some (.gen o, c.args.toList)
    | _ => compCall P c
  | _ => none

/-- A call of a function without a body. -/
def extCall (P : Program) (o : Oper) : Option (FuncId × List Operand) :=
  match o.op with
  | .call c => match c.callee with
    | .value (.func f) => match P.funcs[f]? with
      | some fn => bif fn.body.isNone then some (f, .func f :: c.args.toList) else none
      | none => none
    | _ => none
  | _ => none
/-- A slice of an array. -/
def arrSlice (P : Program) (o : Oper) : Option (AO × List Operand) :=
  match o.op with
  | .slice t x lo hi none => match P.underlying t with
    | some (.array n e) => (sizeP P e).map fun s => (.sliceArr n s lo.isSome hi.isSome, x :: lo.toList ++ hi.toList)
    | _ => none
  | _ => none
/-- What names unsafe; a range over a map. -/
def oddOp (P : Program) (o : Oper) : Option (AO × List Operand) :=
  match o.op with
  | .call c => match c.callee, c.args.toList with
    | .builtin .unsafeSliceData, [x] => some (.usd, [x])
    | .builtin .unsafeString, [x, n] => match (c.argTypes[0]?).bind P.underlying with
      | some (.pointer u) => bif (P.cellsOf u).beq 1 then some (.ustr u, [x, n]) else none
      | _ => none
    | _, _ => none
  | .convert s d x => match P.underlying s, P.underlying d with
    | some (.pointer t), some .unsafePointer => match sizeP P t with
      | some n => bif n.beq 0 then none else some (.uto, [x])
      | none => none
    | some .unsafePointer, some (.pointer u) => match sizeP P u with
      | some n => bif n.beq 0 then none else some (.uof u, [x])
      | none => none
    | _, _ => none
  | .range t x => match P.underlying t with
    | some (.map _ _) => some (.rangeM, [x])
    | _ => none
  | .next it false => some (.nextM, [it])
  | .entry it => some (.entryM, [it])
  | _ => none
def compOp (P : Program) (o : Oper) : Option (AO × List Operand) :=
  match extCall P o with
  | some (f, l) => some (.ext f o, l)
  | none => match arrSlice P o with
    | some r => some r
    | none => match oddOp P o with
      | some r => some r
      | none => compOp0 P o

def compGuard (ops : Array Oper) : Option (Nat × Bool) → Option (Option (Nat × Bool))
  | none => some none
  | some (j, want) => match (ops[j]?).bind (·.dst) with
    | some t => some (some (t, want))
    | none => none

/-- Whether the operation i is ahead of j by the edges: 'b' is what 'Region.before' gives. -/
def ahead (b : Array Nat) (i j : Nat) : Bool := (b.getD j 0).testBit i

def isW : AO → Bool := fun o => match o.cls with | .w => true | _ => false

/-- The numbers of the writing operations among those of l (from i on) of which p holds. -/
def countW (p : Nat → Bool) : List AO → Nat → Nat
  | [], _ => 0
  | o :: l, i => countW p l (i + 1) + (bif isW o && p i then 1 else 0)

/-- What cannot be read stands for an end without an answer. -/
def compOp' (P : Program) (o : Oper) : AO × List Operand := (compOp P o).getD (.fail, [])

def compOps (P : Program) (ops : Array Oper) : List Oper → Option (List AOper)
  | [] => some []
  | o :: l => match compGuard ops o.guard, compOps P ops l with
    | some g, some r => some (⟨o.dst, (compOp' P o).1, (compOp' P o).2, g, 0, 0⟩ :: r)
    | _, _ => none

/-- For a region whose order is open: how many writing operations are ahead of each read, how many may be. -/
def span (b : Array Nat) (aos : List AO) : List AOper → Nat → List AOper
  | [], _ => []
  | o :: l, i => { o with lo := countW (fun k => ahead b k i) aos 0, hi := countW (fun k => !ahead b i k) aos 0 } :: span b aos l (i + 1)

def tmpsOf (l : List Operand) : List Nat := l.filterMap fun | .tmp t => some t | _ => none
def namesOf (o : AOper) : List Nat := tmpsOf o.args ++ o.dst.toList ++ (o.guard.map (·.1)).toList

/-- Do the edges fix the order of all that hangs together: what names one slot; what writes? -/
def regOk (ops : Array Oper) (l : List AOper) : Bool :=
  let b := Region.before ops
  (ops.toList.zipIdx.all fun (o, k) => o.after.all fun e => !Region.binds .any e || e.on.blt k) &&
  (l.zipIdx.all fun (o, k) => l.zipIdx.all fun (u, i) => i.beq k || !(namesOf o).any (fun t => u.dst == some t) || (bif i.blt k then ahead b i k else ahead b k i)) &&
  (l.zipIdx.all fun (o, k) => l.zipIdx.all fun (u, i) => !i.blt k || !isW o.ao || !isW u.ao || ahead b i k)

def compC (P : Program) : Code → Option AC
  | .skip => some .skip
  | .region _ ops d => match compOps P ops ops.toList with
    | some l => some (bif d then (bif regOk ops l then .reg (span (Region.before ops) (l.map (·.ao)) l 0) true else .fail) else .reg l false)
    | none => none
  | .seq a b => match compC P a, compC P b with
    | some x, some y => some (.seq x y)
    | _, _ => none
  | .cond c a b => match compC P a, compC P b with
    | some x, some y => some (.cond c x y)
    | _, _ => none
  | .block id b => (compC P b).map (.block id)
  | .loop b => (compC P b).map .loop
  | .exit id => some (.exit id)
  | .ret => some .ret
  | _ => some .fail

def compR (P : Program) : List ResultVar → Option (List RV)
  | [] => some []
  | .tmp t :: l => (compR P l).map (.tmp t :: ·)
  | .cell a t :: l => match P.underlying t, sizeP P t, compR P l with
    | some d, some n, some r => bif isAggD d then some (.cell a true n :: r) else bif n.beq 1 then some (.cell a false 1 :: r) else none
    | _, _, _ => none

def compF (P : Program) (f : Func) : Option AFn :=
  match f.body with
  | some c => match compC P c, compR P f.results.toList with
    | some b, some r => some ⟨f.ntmps, b, r⟩
    | _, _ => none
  | none => none
end Go.Sx
