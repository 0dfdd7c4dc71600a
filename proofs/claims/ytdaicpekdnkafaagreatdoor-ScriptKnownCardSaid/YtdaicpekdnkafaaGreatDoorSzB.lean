/- The seat's environment, over the table that start-up laid. -/
import Derived.Test.YtdaicpekdnkafaaGreatDoorSzA
import Derived.Lib.LaidTab
import Derived.Stop.LaidErr
namespace Go.Proofs.YtdaicpekdnkafaaGreatDoor
open Go Go.Sx Go.RowKit
set_option maxRecDepth 100000

def powZ : List Int := [1, 10, 100, 1000, 10000, 100000, 1000000, 10000000, 100000000, 1000000000, 10000000000, 100000000000, 1000000000000, 10000000000000, 100000000000000, 1000000000000000, 10000000000000000, 100000000000000000, 1000000000000000000, 10000000000000000000]
def PowIs (W : World) : Prop := Lib.TabIs Tryz.prog W "internal/strconv.uint64pow10" .u64 powZ

def oldS (a : Addr) (n : Nat) : Option (List Value) :=
  bif a.spot.isNone && Nat.beq a.block 0 && Nat.beq n 1 && Nat.blt a.off 20 then some [.int .u64 (powZ.getD a.off 0)] else none

theorem pow_cell {W : World} (h : PowIs W) (r : Nat) (hr : r < 20) : W.cell? ⟨0, r, none⟩ = some (.int .u64 (powZ.getD r 0)) :=
  h.cell (show Tryz.prog.globalNamed "internal/strconv.uint64pow10" = some 0 by kernel_rfl) r (by show r < 20; exact hr)

theorem oldS_ok {W : World} (h : PowIs W) (a : Addr) (n : Nat) (vs : List Value) (e : oldS a n = some vs) : oldCells W a 0 n = some vs := by
  obtain ⟨b, o, sp⟩ := a
  unfold oldS at e
  obtain ⟨h1, h2⟩ := bif_true e
  subst h2
  simp only [Bool.and_eq_true] at h1
  obtain ⟨⟨⟨h1, h2⟩, h3⟩, h4⟩ := h1
  have h2 := Nat.eq_of_beq_eq_true h2
  have h3 := Nat.eq_of_beq_eq_true h3
  have h4 := blt_iff.1 h4
  have h2 : b = 0 := h2
  have h4 : o < 20 := h4
  subst h2 h3
  cases sp with
  | some _ => cases h1
  | none =>
    have := pow_cell h o h4
    simp [oldCells, Addr.add, this]

noncomputable def envS (W : World) (h : PowIs W) : Env := { P := Tryz.prog, W0 := W, meth := methS, okFn := okFn, same := sameS, old := oldS, oldOk := oldS_ok h }
theorem envS_ok (W : World) (h : PowIs W) : EnvOk (envS W h) where
  same := sameS_ok
  fn := okFn_fn
  meth := fun t name f e v w => methS_ok t name f e v w

noncomputable def fnS (f : FuncId) : Option AFn := (Tryz.prog.funcs[f]?).bind (compF Tryz.prog)
noncomputable def kfS (f : FuncId) : Option KFn := ((Tryz.prog.funcs[f]?).bind (compF Tryz.prog)).bind kFn
theorem fnS_fn (f : FuncId) (g : AFn) (h : fnS f = some g) : ∃ fn, Tryz.prog.funcs[f]? = some fn ∧ compF Tryz.prog fn = some g := by
  unfold fnS at h
  exact Option.bind_eq_some_iff.1 h
theorem kfS_fn (f : FuncId) (g : KFn) (h : kfS f = some g) : ∃ a, fnS f = some a ∧ kFn a = some g := by
  unfold kfS at h
  exact Option.bind_eq_some_iff.1 h
theorem mixedS : Tryz.prog.follows .mixedOrders = true := by kernel_rfl

theorem tab0 (W : World) (h : PowIs W) : TabOk (envS W h) (fun _ => none) fnS where
  env := envS_ok W h
  mixed := mixedS
  fns := fnS_fn
  sums := by intro f s e; cases e

/-- From the row's condition. -/
theorem pow_of_laid {W : World} (h : laidMetH Tryz.prog Rows.scriptKnownRow.laid W) : PowIs W := by
  rw [MakeChecks.laidMetH_plain _ _ _ (by kernel_rfl)] at h
  exact Lib.tabIs_of_head (g := 0) (t := 377) (e := 318) (n := 20) (by kernel_rfl) (by kernel_rfl) (by kernel_rfl) (by kernel_rfl) (by kernel_rfl) (by kernel_rfl) h.tail.tail
end Go.Proofs.YtdaicpekdnkafaaGreatDoor
