/- The seat's tables: which functions may be called, the methods behind interfaces, what start-up laid. -/
import Derived.Test.YtdaicpekdnkafaaGreatDoorRows
import Derived.Test.YtdaicpekdnkafaaGreatDoorSyF
import Derived.LaidMore
import Derived.KernelRfl
import Derived.MakeChecks
namespace Go.Proofs.YtdaicpekdnkafaaGreatDoor
open Go Go.Sx Go.RowKit
set_option maxRecDepth 100000

/-! ### The functions -/
def okMask : Nat := 88725853287682318538342976773744459724392913427909289077649401535844803849165205683152948154143310712850253789472144146300005253116
def okFn (f : FuncId) : Bool := okMask.testBit f
noncomputable def okCheck (f : FuncId) : Bool := match Tryz.prog.funcs[f]? with
  | some fn => !(fn.name == "runtime.NumGoroutine") && !fn.body.isNone
  | none => false
theorem okAll : ((List.range 437).all fun f => !okFn f || okCheck f) = true := by kernel_rfl
set_option exponentiation.threshold 1000 in
theorem okFn_fn (f : FuncId) (h : okFn f = true) : ∃ fn, Tryz.prog.funcs[f]? = some fn ∧ (fn.name == "runtime.NumGoroutine") = false ∧ fn.body.isNone = false := by
  have hf : (f : Nat) < 437 := by
    by_cases hf : (f : Nat) < 437
    · exact hf
    · exfalso
      have hlt : okMask < 2 ^ f := Nat.lt_of_lt_of_le (by decide : okMask < 2 ^ 437) (Nat.pow_le_pow_right (by decide) (Nat.le_of_not_lt hf))
      have := Nat.testBit_lt_two_pow hlt
      unfold okFn at h
      rw [this] at h; cases h
  have := List.all_eq_true.1 okAll f (List.mem_range.2 hf)
  rw [h] at this
  simp only [Bool.not_true, Bool.false_or] at this
  unfold okCheck at this
  split at this
  · rename_i fn hfn
    simp only [Bool.and_eq_true, Bool.not_eq_true'] at this
    exact ⟨fn, hfn, this.1, this.2⟩
  · cases this

/-! ### Methods behind an interface: those of *disk.Sim -/
def methS (t : TypeId) (name : String) : Option FuncId := bif Nat.beq t 95 then
    (if name = "Read" then some 378 else if name = "Write" then some 381 else if name = "Sync" then some 380 else if name = "Rename" then some 379 else if name = "Delete" then some 376 else if name = "List" then some 377 else none)
  else none
theorem methS_ok (t : TypeId) (name : String) (f : FuncId) (h : methS t name = some f) (v : Value) (w : World) : (nilAhead (Tryz.prog.types.size + Made.depth) t v name).run Tryz.prog w = .ok (some false) w ∧
    (method (Tryz.prog.types.size + Made.depth) t v name).run Tryz.prog w = .ok (f, v) w := by
  unfold methS at h
  cases ht : Nat.beq t 95 with
  | false => rw [ht] at h; cases h
  | true =>
    rw [ht] at h
    have := Nat.eq_of_beq_eq_true ht
    subst this
    simp only [cond_true] at h
    split at h
    · rename_i e; subst e; injection h with h; subst h; exact ⟨by kernel_rfl, by kernel_rfl⟩
    · split at h
      · rename_i e; subst e; injection h with h; subst h; exact ⟨by kernel_rfl, by kernel_rfl⟩
      · split at h
        · rename_i e; subst e; injection h with h; subst h; exact ⟨by kernel_rfl, by kernel_rfl⟩
        · split at h
          · rename_i e; subst e; injection h with h; subst h; exact ⟨by kernel_rfl, by kernel_rfl⟩
          · split at h
            · rename_i e; subst e; injection h with h; subst h; exact ⟨by kernel_rfl, by kernel_rfl⟩
            · split at h
              · rename_i e; subst e; injection h with h; subst h; exact ⟨by kernel_rfl, by kernel_rfl⟩
              · cases h

/-! ### abi.NoEscape gives back its argument -/
def sameS (f : FuncId) : Bool := Nat.beq f 79
theorem sameS_ok (f : FuncId) (h : sameS f = true) (v : Value) (w : World) : (callFunc f #[v]).run Tryz.prog w = .ok (.value v) w := by
  have := Nat.eq_of_beq_eq_true h
  subst this
  exact (show (callFunc 79 #[v]).run Tryz.prog w = .ok (.value v) w by kernel_rfl)
end Go.Proofs.YtdaicpekdnkafaaGreatDoor
