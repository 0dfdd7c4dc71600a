import Derived.Test.YtdaicpekdnkafaaGreatDoorSxL
namespace Go.Sx
open Go Go.RowKit
section
variable {E : Env} {ρ : Operand → Value} {M : BMap} {F : Nat → Option AB} {w : World}

/-- One abstract block, and the block that it stands for, are written. -/
theorem HRel.upd {w0 : World} (H : HRel w0 M F w) {b : Nat} {cb : CB} {k k' : AB} (hM : M b = some cb) (hF : F b = some k) (hk : k.isDead = false) {w' : World}
    (hsize : w'.heap.size = w.heap.size) (hsame : ∀ i, i ≠ cb.blk → w'.heap[i]? = w.heap[i]?) (ho : ∃ o, w'.heap[cb.blk]? = some o ∧ BRel M cb k' o)
    (h1 : w'.os = w.os) (h2 : w'.tape = w.tape) (h3 : w'.output = w.output) :
    HRel w0 M (fun i => if i = b then some k' else F i) w' ∧ Fram M F w w' := by
  have hb := H.bnd b cb hM
  refine ⟨⟨?_, ?_, ?_, ?_⟩, ⟨by omega, ?_⟩⟩
  · intro b' cb' j m f dj
    by_cases e : b' = b
    · subst e
      simp only [if_pos] at f
      injection f with f; subst f
      rw [hM] at m; injection m with m; subst m
      exact ho
    · simp only [if_neg e] at f
      have hne : cb'.blk ≠ cb.blk := fun x => e (H.inj b' b cb' cb j k m f dj hM hF hk x)
      rw [hsame _ hne]
      exact H.has b' cb' j m f dj
  · intro b1 b2 c1 c2 k1 k2 m1 f1 d1 m2 f2 d2 he
    by_cases e1 : b1 = b
    · by_cases e2 : b2 = b
      · rw [e1, e2]
      · simp only [if_neg e2] at f2
        subst e1; rw [hM] at m1; injection m1 with m1; subst m1
        exact H.inj _ _ _ _ _ _ hM hF hk m2 f2 d2 he
    · simp only [if_neg e1] at f1
      by_cases e2 : b2 = b
      · subst e2; rw [hM] at m2; injection m2 with m2; subst m2
        exact H.inj _ _ _ _ _ _ m1 f1 d1 hM hF hk he
      · simp only [if_neg e2] at f2
        exact H.inj _ _ _ _ _ _ m1 f1 d1 m2 f2 d2 he
  · intro b' cb' m; have := H.bnd b' cb' m; omega
  · exact ⟨h1.trans H.old.os, h2.trans H.old.tape, h3.trans H.old.output, by have := H.old.size; omega, fun i hi => by rw [hsame i (by omega)]; exact H.old.block i hi⟩
  · intro i hi hn
    exact hsame i (fun e => hn ⟨b, cb, k, hM, hF, hk, e.symm⟩)

/-- One new abstract block, and the new block that it stands for. -/
theorem HRel.add {w0 : World} (H : HRel w0 M F w) {b sz : Nat} {k : AB} {o : Obj} (hM : M b = none) {w' : World} (hsize : w'.heap.size = w.heap.size + 1)
    (hsame : ∀ i, i < w.heap.size → w'.heap[i]? = w.heap[i]?) (ho : w'.heap[w.heap.size]? = some o) (h1 : w'.os = w.os) (h2 : w'.tape = w.tape) (h3 : w'.output = w.output)
    (hk : k.isDead = false → BRel (fun i => if i = b then some ⟨w.heap.size, 0, sz⟩ else M i) ⟨w.heap.size, 0, sz⟩ k o) :
    MLe M (fun i => if i = b then some ⟨w.heap.size, 0, sz⟩ else M i) ∧
    HRel w0 (fun i => if i = b then some ⟨w.heap.size, 0, sz⟩ else M i) (fun i => if i = b then some k else F i) w' ∧ Fram M F w w' ∧
    (∀ i, Own (fun i => if i = b then some ⟨w.heap.size, 0, sz⟩ else M i) (fun i => if i = b then some k else F i) i → Own M F i ∨ w.heap.size ≤ i) := by
  have hle : MLe M (fun i => if i = b then some ⟨w.heap.size, 0, sz⟩ else M i) := by
    intro i cb m
    by_cases e : i = b
    · subst e; rw [hM] at m; cases m
    · simp only [if_neg e]; exact m
  refine ⟨hle, ⟨?_, ?_, ?_, ?_⟩, ⟨by omega, fun i hi _ => hsame i hi⟩, ?_⟩
  · intro b' cb' j m f dj
    by_cases e : b' = b
    · subst e
      simp only [if_pos] at f m
      injection f with f; injection m with m; subst f m
      exact ⟨o, ho, hk dj⟩
    · simp only [if_neg e] at f m
      have := H.bnd b' cb' m
      rw [hsame _ this.2]
      obtain ⟨o', p, q⟩ := H.has b' cb' j m f dj
      exact ⟨o', p, q.mono hle⟩
  · intro b1 b2 c1 c2 k1 k2 m1 f1 d1 m2 f2 d2 he
    by_cases e1 : b1 = b
    · by_cases e2 : b2 = b
      · rw [e1, e2]
      · simp only [if_neg e2] at m2
        simp only [if_pos e1] at m1
        injection m1 with m1; subst m1
        have := H.bnd b2 c2 m2
        simp only at he; omega
    · simp only [if_neg e1] at f1 m1
      by_cases e2 : b2 = b
      · simp only [if_pos e2] at m2
        injection m2 with m2; subst m2
        have := H.bnd b1 c1 m1
        simp only at he; omega
      · simp only [if_neg e2] at f2 m2
        exact H.inj _ _ _ _ _ _ m1 f1 d1 m2 f2 d2 he
  · intro b' cb' m
    by_cases e : b' = b
    · simp only [if_pos e] at m; injection m with m; subst m
      have := H.old.size
      simp only; omega
    · simp only [if_neg e] at m; have := H.bnd b' cb' m; omega
  · exact ⟨h1.trans H.old.os, h2.trans H.old.tape, h3.trans H.old.output, by have := H.old.size; omega, fun i hi => by rw [hsame i (by have := H.old.size; omega)]; exact H.old.block i hi⟩
  · rintro i ⟨b', cb', j, m, f, dj, rfl⟩
    by_cases e : b' = b
    · simp only [if_pos e] at m; injection m with m; subst m
      right; exact Nat.le_refl _
    · simp only [if_neg e] at m f
      left; exact ⟨b', cb', j, m, f, dj, rfl⟩

theorem markStringish_run {P : Program} {w : World} {b o : Nat} {arr : Array Value} {e : TypeId} {fz : Nat × Nat} (h : w.heap[b]? = some (.cells arr e fz)) :
    (markStringish ⟨b, o, none⟩).run P w = .ok () (w.freeze ⟨b, arr.size, none⟩ 1) := by
  simp [markStringish, World.shape?, h]

theorem freeze_heap {w : World} {b : Nat} {arr : Array Value} {e : TypeId} {fz : Nat × Nat} (h : w.heap[b]? = some (.cells arr e fz)) (hfz : fz.1 = fz.2 ∨ arr.size ≤ fz.1) :
    (w.freeze ⟨b, arr.size, none⟩ 1).heap.size = w.heap.size ∧ (∀ i, i ≠ b → (w.freeze ⟨b, arr.size, none⟩ 1).heap[i]? = w.heap[i]?) ∧
    ∃ fz', (w.freeze ⟨b, arr.size, none⟩ 1).heap[b]? = some (.cells arr e fz') ∧ (fz'.1 = fz'.2 ∨ arr.size ≤ fz'.1) := by
  obtain ⟨lo, hi⟩ := fz
  unfold World.freeze
  rw [if_neg (by omega)]
  refine ⟨by simp, fun i hi => by simp [Array.getElem?_modify, hi.symm], ?_⟩
  simp only [Array.getElem?_modify, if_pos, h, Option.map_some]
  refine ⟨_, rfl, ?_⟩
  by_cases e1 : lo = hi
  · rw [if_pos (by simpa using e1)]; right; exact Nat.le_refl _
  · rw [if_neg (by simpa using e1)]
    right
    simp at hfz
    simp only
    omega

/-- What an operation that writes nothing of what the abstract memory tells leaves behind. -/
def AnsR (E : Env) (M : BMap) (F : Nat → Option AB) (w : World) (s : Sem Next) (x : AV) : Prop :=
  ∃ nx v w', s.run E.P w = .ok nx w' ∧ nval nx = some v ∧ VRel M x v ∧ HRel E.W0 M F w' ∧ Fram M F w w'

theorem ansR {s : Sem Value} {x : AV} {u : Value} (H : HRel E.W0 M F w) (h : s.run E.P w = .ok u w) (hr : VRel M x u) : AnsR E M F w (do pure (.value (← s))) x :=
  ⟨.value u, u, w, by simp [h], rfl, hr, H, Fram.refl _ _ _⟩

/-- Every operation that only reads. -/
theorem lstep_sim0 {o : Oper} {ao : AO} {args : List Operand} (hc : compOp0 E.P o = some (ao, args)) (hcls : ao.cls = .l) {xs : List AV} {x : AV}
    (H : HRel E.W0 M F w) (hx : LRel M xs (args.map ρ)) (hs : lstep E ao xs F = some x) : AnsR E M F w (execOp ρ o) x := by
  obtain ⟨dst, op, type, pos, after, guard⟩ := o
  cases op
  case load t a =>
    simp only [compOp0] at hc
    split at hc <;> first | (cases hc; done) | skip
    rename_i d n hd hn
    have key : isAggD d = isAggD d → args = [a] → ao = .load (isAggD d) n → AnsR E M F w (execOp ρ ⟨dst, .load t a, type, pos, after, guard⟩) x := by
      intro _ h1 h2
      subst h1 h2
      obtain ⟨y, rfl, hy⟩ := hx.inv1
      obtain ⟨u, p, q⟩ := load_sim H hd hn hy hs
      exact ansR H p q
    cases hagg : isAggD d with
    | true =>
      rw [hagg, cond_true] at hc
      simp only [Option.some.injEq, Prod.mk.injEq] at hc
      exact key rfl hc.2.symm (by rw [hagg]; exact hc.1.symm)
    | false =>
      rw [hagg, cond_false] at hc
      obtain ⟨h1, hc'⟩ := bif_true hc
      have h1 := Nat.eq_of_beq_eq_true h1
      clear hc
      subst h1
      injection hc' with h8 h9
      exact key rfl h9.symm (by rw [hagg]; exact h8.symm)
  case lookup t m k ok =>
    simp only [compOp0] at hc
    split at hc <;> first | (cases hc; done) | skip
    rename_i kt e hu
    split at hc <;> first | (cases hc; done) | skip
    rename_i d z hd hz
    obtain ⟨hk, hc⟩ := bif_true hc
    injection hc with h8 h9
    subst h8 h9
    obtain ⟨y, z', rfl, hy, hz'⟩ := hx.inv2
    obtain ⟨u, p, q⟩ := lookup_sim H hu hd hk hz hy hz' hs
    exact ansR H p q
  case convert s d a =>
    simp only [compOp0] at hc
    split at hc
    · simp only [Option.some.injEq, Prod.mk.injEq] at hc
      rw [← hc.1] at hcls; cases hcls
    · rename_i e h1 h2
      split at hc <;> first | (cases hc; done) | skip
      rename_i h3
      simp only [Option.some.injEq, Prod.mk.injEq] at hc
      obtain ⟨rfl, rfl⟩ := hc
      obtain ⟨y, rfl, hy⟩ := hx.inv1
      obtain ⟨u, p, q⟩ := b2s_sim H hy hs
      refine ansR (s := convert s d (ρ a)) H ?_ q
      have hns : ∀ t, ρ a ≠ .string t := by
        intro t e
        rw [e] at hy
        cases hy
        simp [lstep] at hs
      have hni : ∀ k n, ρ a ≠ .int k n := by
        intro k n e
        rw [e] at p
        simp [Conv.bytesToString] at p
      have hnf : ∀ k n, ρ a ≠ .float k n := by
        intro k n e
        rw [e] at p
        simp [Conv.bytesToString] at p
      have hnc : ∀ k n m, ρ a ≠ .complex k n m := by
        intro k n m e
        rw [e] at p
        simp [Conv.bytesToString] at p
      generalize ρ a = ra at *
      cases ra <;> first | (exact absurd rfl (hns _)) | (exact absurd rfl (hni _ _)) | (exact absurd rfl (hnf _ _)) | (exact absurd rfl (hnc _ _ _)) | (simp [convert, run_underlying h1, run_underlying h2, run_underlying h3, p])
    · split at hc <;> first | (cases hc; done) | skip
      simp only [Option.some.injEq, Prod.mk.injEq] at hc
      rw [← hc.1] at hcls; cases hcls
    · rename_i e' e h1 h2
      split at hc <;> first | (cases hc; done) | skip
      rename_i h3
      obtain ⟨h4, hc'⟩ := bif_true hc
      have h4 := Nat.eq_of_beq_eq_true h4
      clear hc
      subst h4
      injection hc' with h8 h9
      subst h8 h9
      obtain ⟨y, rfl, hy⟩ := hx.inv1
      cases y <;> simp only [lstep] at hs <;> first | (cases hs; done) | skip
      rename_i b o l sz
      split at hs <;> first | (cases hs; done) | skip
      rename_i cs e2 hF
      injection hs with hs; subst hs
      simp only [execOp]
      generalize ρ a = ra at *
      have hy0 := hy
      cases hy with
      | sl h hl hs ho =>
        rename_i cb off cap
        obtain ⟨arr, fz, g1, g2, g3, g4, g5⟩ := H.cellsAt h hF
        obtain ⟨f1, f2, fz', f3, f4⟩ := freeze_heap g1 g4
        have hup := H.upd (k' := .cells cs e2) (w' := w.freeze ⟨cb.blk, arr.size, none⟩ 1) h hF rfl f1 f2 ⟨_, f3, rfl, g2, g3, f4, g5, H.exactAt h hF _ _ _ g1⟩ (by unfold World.freeze; split <;> rfl) (by unfold World.freeze; split <;> rfl) (by unfold World.freeze; split <;> rfl)
        have hfun : (fun i => if i = b then some (AB.cells cs e2) else F i) = F := by
          funext i
          by_cases e : i = b
          · subst e; simp [hF]
          · simp [e]
        rw [hfun] at hup
        refine ⟨.value (.slice (some ⟨cb.blk, off, none⟩) l cap), _, _, ?_, rfl, hy0, hup.1, hup.2⟩
        obtain rfl : e' = e := by rw [h1] at h2; injection h2 with h2; injection h2
        simp [convert, run_underlying h1, run_underlying h3, markStringish_run g1]
    · simp only [Option.some.injEq, Prod.mk.injEq] at hc
      rw [← hc.1] at hcls; cases hcls
    · cases hc
  case call c =>
    simp only [compOp0] at hc
    split at hc
    · simp only [Option.some.injEq, Prod.mk.injEq] at hc
      rw [← hc.1] at hcls; cases hcls
    · simp only [Option.some.injEq, Prod.mk.injEq] at hc
      rw [← hc.1] at hcls; cases hcls
    · simp only [compCall, Bool.cond_eq_ite] at hc
      split at hc
      · simp only [Option.some.injEq, Prod.mk.injEq] at hc
        rw [← hc.1] at hcls; cases hcls
      · simp only [Option.some.injEq, Prod.mk.injEq] at hc
        rw [← hc.1] at hcls; cases hcls
      · simp only [Option.some.injEq, Prod.mk.injEq] at hc
        rw [← hc.1] at hcls; cases hcls
      · rename_i b hcal
        split at hc
        · split at hc <;> first | (cases hc; done) | skip
          rename_i y t hargs ht
          have hat : c.args = #[y] := by apply Array.ext'; simpa using hargs
          split at hc <;> first | (cases hc; done) | skip
          · simp only [Option.some.injEq, Prod.mk.injEq] at hc
            rw [← hc.1] at hcls; cases hcls
          · simp only [Option.some.injEq, Prod.mk.injEq] at hc
            rw [← hc.1] at hcls; cases hcls
          · rename_i kt e hu
            simp only [Option.some.injEq, Prod.mk.injEq] at hc
            obtain ⟨rfl, rfl⟩ := hc
            obtain ⟨z, rfl, hz⟩ := hx.inv1
            obtain ⟨u, p, q⟩ := mlen_sim (ty := type) H hu hz hs
            have e : Builtin.len_ c.argTypes type #[ρ y] = Builtin.len_ #[t] type #[ρ y] := by unfold Builtin.len_; simp [ht]
            have e2 : execOp ρ ⟨dst, .call c, type, pos, after, guard⟩ = (do pure (.value (← Builtin.len_ #[t] type #[ρ y]))) := by
              rw [← e]
              simp [execOp, resolve, hcal, hat, invoke, builtin]
            rw [e2]
            exact ansR H p q
        all_goals
          exfalso
          iterate 5 (all_goals try split at hc)
          all_goals try (cases hc; done)
          all_goals try (simp only [Option.some.injEq, Prod.mk.injEq] at hc; rw [← hc.1] at hcls; cases hcls; done)
          all_goals try (simp only [Option.map_eq_some_iff, Prod.mk.injEq] at hc; obtain ⟨_, _, h9, _⟩ := hc; rw [← h9] at hcls; cases hcls; done)
  case makeMap t r => cases r <;> simp [compOp0] at hc; rw [← hc.1] at hcls; cases hcls
  case next it b => cases b <;> simp [compOp0] at hc; rw [← hc.1] at hcls; cases hcls
  case slice t a lo hi mx =>
    exfalso
    cases mx with
    | some m => simp [compOp0] at hc
    | none =>
      simp only [compOp0] at hc
      split at hc
      · simp only [Option.some.injEq, Prod.mk.injEq] at hc
        rw [← hc.1] at hcls; cases hcls
      · simp only [Option.map_eq_some_iff, Prod.mk.injEq] at hc
        obtain ⟨_, _, h9, _⟩ := hc; rw [← h9] at hcls; cases hcls
      · cases hc
  all_goals
    exfalso
    simp only [compOp0, Bool.cond_eq_ite] at hc
    iterate 5 (all_goals try split at hc)
    all_goals try (cases hc; done)
    all_goals try (simp only [Option.some.injEq, Prod.mk.injEq] at hc; rw [← hc.1] at hcls; cases hcls; done)
    all_goals try (simp only [Option.map_eq_some_iff, Prod.mk.injEq] at hc; obtain ⟨_, _, h9, _⟩ := hc; rw [← h9] at hcls; cases hcls; done)
end
end Go.Sx
