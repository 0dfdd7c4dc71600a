/- The closed facts of a row, one by one. -/
import Derived.Test.YtdaicpekdnkafaaGreatDoorRows
import Derived.JoinedOf
import Derived.KernelRfl
namespace Go.Proofs.YtdaicpekdnkafaaGreatDoor
open Go
set_option maxRecDepth 100000
theorem kfact0 : (fun (P : Program) (f : FuncId) (fn : Func) (s : ChangeSpec) (c : OpenClaim) => (c.wf (OpenSpec.ofChange s) : Bool)) Tryz.prog 4 Tryz.f4 Rows.scriptKnownSpec Rows.scriptKnownRow = true := by kernel_rfl
theorem kfact1 : (fun (P : Program) (f : FuncId) (fn : Func) (s : ChangeSpec) (c : OpenClaim) => (laidOutB P : Bool)) Tryz.prog 4 Tryz.f4 Rows.scriptKnownSpec Rows.scriptKnownRow = true := by kernel_rfl
theorem kfact2 : (fun (P : Program) (f : FuncId) (fn : Func) (s : ChangeSpec) (c : OpenClaim) => (mapsRowed P : Bool)) Tryz.prog 4 Tryz.f4 Rows.scriptKnownSpec Rows.scriptKnownRow = true := by kernel_rfl
theorem kfact3 : (fun (P : Program) (f : FuncId) (fn : Func) (s : ChangeSpec) (c : OpenClaim) => (fn.params.all (P.readableRec ·) : Bool)) Tryz.prog 4 Tryz.f4 Rows.scriptKnownSpec Rows.scriptKnownRow = true := by kernel_rfl
theorem kfact4 : (fun (P : Program) (f : FuncId) (fn : Func) (s : ChangeSpec) (c : OpenClaim) => (namedTie P c.named s.vars : Bool)) Tryz.prog 4 Tryz.f4 Rows.scriptKnownSpec Rows.scriptKnownRow = true := by kernel_rfl
theorem kfact5 : (fun (P : Program) (f : FuncId) (fn : Func) (s : ChangeSpec) (c : OpenClaim) => ((c.stops == []) : Bool)) Tryz.prog 4 Tryz.f4 Rows.scriptKnownSpec Rows.scriptKnownRow = true := by kernel_rfl
theorem kfact6 : (fun (P : Program) (f : FuncId) (fn : Func) (s : ChangeSpec) (c : OpenClaim) => ((P.stops == []) : Bool)) Tryz.prog 4 Tryz.f4 Rows.scriptKnownSpec Rows.scriptKnownRow = true := by kernel_rfl
theorem kfact7 : (fun (P : Program) (f : FuncId) (fn : Func) (s : ChangeSpec) (c : OpenClaim) => ((c.knobs == []) : Bool)) Tryz.prog 4 Tryz.f4 Rows.scriptKnownSpec Rows.scriptKnownRow = true := by kernel_rfl
theorem kfact8 : (fun (P : Program) (f : FuncId) (fn : Func) (s : ChangeSpec) (c : OpenClaim) => ((P.stopKnobs == []) : Bool)) Tryz.prog 4 Tryz.f4 Rows.scriptKnownSpec Rows.scriptKnownRow = true := by kernel_rfl
theorem kfact9 : (fun (P : Program) (f : FuncId) (fn : Func) (s : ChangeSpec) (c : OpenClaim) => ((c.inPlace == P.inPlace f) : Bool)) Tryz.prog 4 Tryz.f4 Rows.scriptKnownSpec Rows.scriptKnownRow = true := by kernel_rfl
theorem kfact10 : (fun (P : Program) (f : FuncId) (fn : Func) (s : ChangeSpec) (c : OpenClaim) => ((c.unfollowed == P.unfollowed f) : Bool)) Tryz.prog 4 Tryz.f4 Rows.scriptKnownSpec Rows.scriptKnownRow = true := by kernel_rfl
theorem kfact11 : (fun (P : Program) (f : FuncId) (fn : Func) (s : ChangeSpec) (c : OpenClaim) => ((c.recurses == P.recurses f) : Bool)) Tryz.prog 4 Tryz.f4 Rows.scriptKnownSpec Rows.scriptKnownRow = true := by kernel_rfl
theorem kfact12 : (fun (P : Program) (f : FuncId) (fn : Func) (s : ChangeSpec) (c : OpenClaim) => ((c.named == P.varsNamed f) : Bool)) Tryz.prog 4 Tryz.f4 Rows.scriptKnownSpec Rows.scriptKnownRow = true := by kernel_rfl
theorem kfact13 : (fun (P : Program) (f : FuncId) (fn : Func) (s : ChangeSpec) (c : OpenClaim) => ((c.maps == (fn.params.toList ++ s.plain.varTypes P).any (P.mapsRec ·)) : Bool)) Tryz.prog 4 Tryz.f4 Rows.scriptKnownSpec Rows.scriptKnownRow = true := by kernel_rfl
theorem kfact14 : (fun (P : Program) (f : FuncId) (fn : Func) (s : ChangeSpec) (c : OpenClaim) => ((c.ifaces == (fn.params.toList ++ s.plain.varTypes P).any (P.ifacesRec ·)) : Bool)) Tryz.prog 4 Tryz.f4 Rows.scriptKnownSpec Rows.scriptKnownRow = true := by kernel_rfl
theorem kfact15 : (fun (P : Program) (f : FuncId) (fn : Func) (s : ChangeSpec) (c : OpenClaim) => ((c.mapsOut == P.mapsAmong fn.resultTypes.toList) : Bool)) Tryz.prog 4 Tryz.f4 Rows.scriptKnownSpec Rows.scriptKnownRow = true := by kernel_rfl
theorem kfact16 : (fun (P : Program) (f : FuncId) (fn : Func) (s : ChangeSpec) (c : OpenClaim) => ((c.loops == (fn.params.toList ++ s.plain.varTypes P).any (P.loopsFrom ·)) : Bool)) Tryz.prog 4 Tryz.f4 Rows.scriptKnownSpec Rows.scriptKnownRow = true := by kernel_rfl
theorem kfact17 : (fun (P : Program) (f : FuncId) (fn : Func) (s : ChangeSpec) (c : OpenClaim) => ((c.wideKeys == (fn.params.toList ++ s.plain.varTypes P ++ fn.resultTypes.toList).any (P.wideKeysFrom ·)) : Bool)) Tryz.prog 4 Tryz.f4 Rows.scriptKnownSpec Rows.scriptKnownRow = true := by kernel_rfl
theorem kfact18 : (fun (P : Program) (f : FuncId) (fn : Func) (s : ChangeSpec) (c : OpenClaim) => (s.vars.all (P.varReadable ·) : Bool)) Tryz.prog 4 Tryz.f4 Rows.scriptKnownSpec Rows.scriptKnownRow = true := by kernel_rfl
theorem kfact19 : (fun (P : Program) (f : FuncId) (fn : Func) (s : ChangeSpec) (c : OpenClaim) => (fn.resultTypes.all (fun t => P.readableRec t && decide (t < P.types.size)) : Bool)) Tryz.prog 4 Tryz.f4 Rows.scriptKnownSpec Rows.scriptKnownRow = true := by kernel_rfl
theorem kfact20 : (fun (P : Program) (f : FuncId) (fn : Func) (s : ChangeSpec) (c : OpenClaim) => ((c.ifacesOut == fn.resultTypes.toList.any (P.ifacesRec ·)) : Bool)) Tryz.prog 4 Tryz.f4 Rows.scriptKnownSpec Rows.scriptKnownRow = true := by kernel_rfl
theorem kfact21 : (fun (P : Program) (f : FuncId) (fn : Func) (s : ChangeSpec) (c : OpenClaim) => ((c.loopsOut == fn.resultTypes.toList.any (P.loopsFrom ·)) : Bool)) Tryz.prog 4 Tryz.f4 Rows.scriptKnownSpec Rows.scriptKnownRow = true := by kernel_rfl
theorem kfact22 : (fun (P : Program) (f : FuncId) (fn : Func) (s : ChangeSpec) (c : OpenClaim) => ((c.plainKeys == P.plainKeys) : Bool)) Tryz.prog 4 Tryz.f4 Rows.scriptKnownSpec Rows.scriptKnownRow = true := by kernel_rfl
theorem kfact23 : (fun (P : Program) (f : FuncId) (fn : Func) (s : ChangeSpec) (c : OpenClaim) => (c.shortTexts.isNone : Bool)) Tryz.prog 4 Tryz.f4 Rows.scriptKnownSpec Rows.scriptKnownRow = true := by kernel_rfl
theorem kfact24 : (fun (P : Program) (f : FuncId) (fn : Func) (s : ChangeSpec) (c : OpenClaim) => (P.stopsHeard : Bool)) Tryz.prog 4 Tryz.f4 Rows.scriptKnownSpec Rows.scriptKnownRow = true := by kernel_rfl
theorem kfact25 : (fun (P : Program) (f : FuncId) (fn : Func) (s : ChangeSpec) (c : OpenClaim) => (P.mayEnter : Bool)) Tryz.prog 4 Tryz.f4 Rows.scriptKnownSpec Rows.scriptKnownRow = true := by kernel_rfl
theorem kfact26 : (fun (P : Program) (f : FuncId) (fn : Func) (s : ChangeSpec) (c : OpenClaim) => ((c.lifted == P.liftsFinal) : Bool)) Tryz.prog 4 Tryz.f4 Rows.scriptKnownSpec Rows.scriptKnownRow = true := by kernel_rfl
theorem kfact27 : (fun (P : Program) (f : FuncId) (fn : Func) (s : ChangeSpec) (c : OpenClaim) => ((P.make == some c.make) : Bool)) Tryz.prog 4 Tryz.f4 Rows.scriptKnownSpec Rows.scriptKnownRow = true := by kernel_rfl
theorem kfact28 : (fun (P : Program) (f : FuncId) (fn : Func) (s : ChangeSpec) (c : OpenClaim) => ((c.kinds == (if c.domain.isEmpty then [] else fn.params.toList.map fun t => match P.underlying t with | some (.int k) => some k | _ => none)) : Bool)) Tryz.prog 4 Tryz.f4 Rows.scriptKnownSpec Rows.scriptKnownRow = true := by kernel_rfl
theorem kfact29 : (fun (P : Program) (f : FuncId) (fn : Func) (s : ChangeSpec) (c : OpenClaim) => ((c.pinned == c.pinnedBy) : Bool)) Tryz.prog 4 Tryz.f4 Rows.scriptKnownSpec Rows.scriptKnownRow = true := by kernel_rfl
theorem kfact30 : (fun (P : Program) (f : FuncId) (fn : Func) (s : ChangeSpec) (c : OpenClaim) => ((c.veiled == (fn.params.toList ++ s.plain.varTypes P ++ fn.resultTypes.toList).any (P.veiledRec ·)) : Bool)) Tryz.prog 4 Tryz.f4 Rows.scriptKnownSpec Rows.scriptKnownRow = true := by kernel_rfl
theorem kfact31 : (fun (P : Program) (f : FuncId) (fn : Func) (s : ChangeSpec) (c : OpenClaim) => (c.veiledFits P fn.params.toList (fn.params.toList ++ s.plain.varTypes P ++ fn.resultTypes.toList) : Bool)) Tryz.prog 4 Tryz.f4 Rows.scriptKnownSpec Rows.scriptKnownRow = true := by kernel_rfl
theorem kfactAnd {a b : Bool} (h : a = true) (k : b = true) : (a && b) = true := by rw [h, k]; rfl
theorem kfactAll : joinedFacts Tryz.prog 4 Tryz.f4 Rows.scriptKnownSpec Rows.scriptKnownRow = true := by
  unfold joinedFacts
  exact kfactAnd (kfactAnd (kfactAnd (kfactAnd (kfactAnd (kfactAnd (kfactAnd (kfactAnd (kfactAnd (kfactAnd (kfactAnd (kfactAnd (kfactAnd (kfactAnd (kfactAnd (kfactAnd (kfactAnd (kfactAnd (kfactAnd (kfactAnd (kfactAnd (kfactAnd (kfactAnd (kfactAnd (kfactAnd (kfactAnd (kfactAnd (kfactAnd (kfactAnd (kfactAnd (kfactAnd (kfact0) kfact1) kfact2) kfact3) kfact4) kfact5) kfact6) kfact7) kfact8) kfact9) kfact10) kfact11) kfact12) kfact13) kfact14) kfact15) kfact16) kfact17) kfact18) kfact19) kfact20) kfact21) kfact22) kfact23) kfact24) kfact25) kfact26) kfact27) kfact28) kfact29) kfact30) kfact31
end Go.Proofs.YtdaicpekdnkafaaGreatDoor
