/- ScriptKnown, worked out by the kernel. -/
import Derived.Test.YtdaicpekdnkafaaGreatDoorSzC
namespace Go.Proofs.YtdaicpekdnkafaaGreatDoor
open Go Go.Sx Go.RowKit
set_option maxRecDepth 100000

def ans (r : Option (AV × H)) : Bool := match r with
  | some (.c (.bool true), _) => true
  | _ => false
theorem ans_true {r : Option (AV × H)} (h : ans r = true) : ∃ g, r = some (.c (.bool true), g) := by
  unfold ans at h
  split at h
  · exact ⟨_, rfl⟩
  · cases h
theorem known_run (W : World) (h : PowIs W) : ans (XK (envS W h) sum1 kfS 400 4 [] H.empty) = true := by kernel_rfl
theorem known_calls (W : World) (h : PowIs W) : Calls Tryz.prog 4 #[] W fun e w' => e = .returned (.bool true) ∧ Below W.heap.size W w' := by
  obtain ⟨g, hg⟩ := ans_true (known_run W h)
  refine Calls.mono (X_calls (tab1 W h) (XK_ok kfS_fn _ _ _ _ _ hg) #[] LRel.nil) ?_
  rintro e w' ⟨v, M, rfl, hv, _, hb⟩
  have := hv.c_inv
  subst this
  exact ⟨rfl, hb⟩
end Go.Proofs.YtdaicpekdnkafaaGreatDoor
