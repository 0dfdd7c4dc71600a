import Derived.Test.YtdaicpekdnkafaaGreatDoorSxTb
namespace Go.Sx
open Go Go.RowKit
section
variable {E : Env} {C : CallF}

def LenOk (C : CallF) : Prop := ∀ f xs h r h', C f xs h = some (r, h') → h.len ≤ h'.len

theorem appendTo_len {e : TypeId} {sz bytes n : Nat} {s x : AV} {new : List AV} {h h' : H} (hs : appendTo e sz bytes s n new h = some (x, h')) : h.len ≤ h'.len := by
  simp only [appendTo, Bool.cond_eq_ite] at hs
  repeat' split at hs
  all_goals first
    | (cases hs; done)
    | (simp only [Option.some.injEq, Prod.mk.injEq] at hs; obtain ⟨_, rfl⟩ := hs; simp)

theorem wstep_len {o : AO} {xs : List AV} {x : AV} {h h' : H} (hs : wstep E o xs h = some (x, h')) : h.len ≤ h'.len := by
  unfold wstep at hs
  try simp only [Bool.cond_eq_ite] at hs
  repeat' split at hs
  all_goals first
    | (cases hs; done)
    | exact appendTo_len hs
    | (simp only [Option.some.injEq, Prod.mk.injEq] at hs; obtain ⟨_, rfl⟩ := hs; simp)

theorem astep_len (hC : LenOk C) {o : AO} {xs : List AV} {x : AV} {h h' : H} (hs : astep E C o xs h = some (x, h')) : h.len ≤ h'.len := by
  unfold astep at hs
  split at hs
  · simp only [Option.map_eq_some_iff, Prod.mk.injEq] at hs
    obtain ⟨_, _, _, rfl⟩ := hs; exact Nat.le_refl _
  · simp only [Option.map_eq_some_iff, Prod.mk.injEq] at hs
    obtain ⟨_, _, _, rfl⟩ := hs; exact Nat.le_refl _
  · simp only [Option.map_eq_some_iff, Prod.mk.injEq] at hs
    obtain ⟨_, _, _, rfl⟩ := hs; simp
  · split at hs
    · exact hC _ _ _ _ _ hs
    · exact wstep_len hs
end
end Go.Sx
