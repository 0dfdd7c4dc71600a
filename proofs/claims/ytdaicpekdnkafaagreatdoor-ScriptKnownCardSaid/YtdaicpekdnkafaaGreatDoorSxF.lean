import Derived.Test.YtdaicpekdnkafaaGreatDoorSxE
namespace Go.Sx
open Go Go.RowKit
section
variable {E : Env} {ρ : Operand → Value} {M : BMap} {w : World}

theorem ans_val {s : Sem Next} {x : AV} {v : Value} (h : s.run E.P w = .ok (.value v) w) (hr : VRel M x v) : Ans E M w s x := ⟨_, _, h, rfl, hr⟩

theorem nilPair_of {x y : AV} {u v : Value} {n : Nat} (hx : VRel M x u) (hy : VRel M y v) (h0 : n ≠ 0) (h1 : refKind x = n) (h2 : nilKind y = n) : nilPair n u v = true := by
  have a := refKind_rel hx
  have b := nilKind_rel hy
  rw [h1] at a; rw [h2] at b
  have hn : n ≤ 5 := by rw [← h1]; cases x <;> simp [refKind]
  match n, h0, hn with
  | 1, _, _ => obtain ⟨r, rfl⟩ := a; subst b; rfl
  | 2, _, _ => obtain ⟨r, l, c, rfl⟩ := a; obtain ⟨l', c', rfl⟩ := b; rfl
  | 3, _, _ => obtain ⟨r, rfl⟩ := a; subst b; rfl
  | 4, _, _ => obtain ⟨t, r, rfl⟩ := a; subst b; rfl
  | 5, _, _ => obtain ⟨f, p, q, rfl⟩ := a; subst b; rfl

theorem nilPair_of' {x y : AV} {u v : Value} {n : Nat} (hx : VRel M x u) (hy : VRel M y v) (h0 : n ≠ 0) (h1 : refKind y = n) (h2 : nilKind x = n) : nilPair n u v = true := by
  have a := refKind_rel hy
  have b := nilKind_rel hx
  rw [h1] at a; rw [h2] at b
  have hn : n ≤ 5 := by rw [← h1]; cases y <;> simp [refKind]
  match n, h0, hn with
  | 1, _, _ => obtain ⟨r, rfl⟩ := a; subst b; rfl
  | 2, _, _ => obtain ⟨r, l, c, rfl⟩ := a; obtain ⟨l', c', rfl⟩ := b; rfl
  | 3, _, _ => obtain ⟨r, rfl⟩ := a; subst b; rfl
  | 4, _, _ => obtain ⟨t, r, rfl⟩ := a; subst b; rfl
  | 5, _, _ => obtain ⟨f, p, q, rfl⟩ := a; subst b; rfl

theorem bin_sim {dst : Option Tmp} {op : BinOp} {t : TypeId} {a b : Operand} {yt type : TypeId} {pos : String} {after : Array Edge} {guard : Option (Nat × Bool)} {xs : List AV} {x : AV} {nk : Nat}
    (hnk : nk = (match E.P.underlying t with | some d => nilKindD d | none => 0))
    (hx : LRel M xs [ρ a, ρ b]) (hs : pstep E (.bin op nk ⟨dst, .binOp op t a b yt, type, pos, after, guard⟩) xs = some x) :
    Ans E M w (execOp ρ ⟨dst, .binOp op t a b yt, type, pos, after, guard⟩) x := by
  obtain ⟨y, z, rfl, hy, hz⟩ := hx.inv2
  have hrun : (execOp ρ ⟨dst, .binOp op t a b yt, type, pos, after, guard⟩).run E.P w = ((do eqGuard op t a b (ρ a) (ρ b); binOp op t (ρ a) (ρ b) : Sem Value).run E.P w).andThen fun v w' => .ok (.value v) w' := by
    simp only [execOp]
    rw [Sem.run_bind]; rfl
  have key : ∀ {v : Value}, (do eqGuard op t a b (ρ a) (ρ b); binOp op t (ρ a) (ρ b) : Sem Value).run E.P w = .ok v w → VRel M x v → Ans E M w (execOp ρ ⟨dst, .binOp op t a b yt, type, pos, after, guard⟩) x := by
    intro v h hr
    exact ans_val (by rw [hrun, h]; rfl) hr
  have gen : binG E op nk ⟨dst, .binOp op t a b yt, type, pos, after, guard⟩ y z = some x → Ans E M w (execOp ρ ⟨dst, .binOp op t a b yt, type, pos, after, guard⟩) x := by
    unfold binG
    clear hs
    intro hg
    split at hg
    · rename_i u v hu hv
      have e1 := lower_rel hu hy
      have e2 := lower_rel hv hz
      simp only [Option.map_eq_some_iff] at hg
      obtain ⟨r, hr, rfl⟩ := hg
      rw [← e1, ← e2] at hr
      exact key (pureRun_run hr w) (norm_rel M r)
    · cases hb : (!nk.beq 0 && ((refKind y).beq nk && (nilKind z).beq nk || (refKind z).beq nk && (nilKind y).beq nk)) with
      | false => rw [hb] at hg; cases hg
      | true =>
        rw [hb, cond_true] at hg
        simp only [Bool.and_eq_true, Bool.or_eq_true, Bool.not_eq_true'] at hb
        obtain ⟨h0, h1⟩ := hb
        have h0' : nk ≠ 0 := by intro e; subst e; simp at h0
        have hp : nilPair nk (ρ a) (ρ b) = true := by
          rcases h1 with ⟨p, q⟩ | ⟨p, q⟩
          · exact nilPair_of hy hz h0' (Nat.eq_of_beq_eq_true p) (Nat.eq_of_beq_eq_true q)
          · exact nilPair_of' hy hz h0' (Nat.eq_of_beq_eq_true p) (Nat.eq_of_beq_eq_true q)
        cases hd : E.P.underlying t with
        | none => rw [hd] at hnk; exact absurd hnk h0'
        | some d =>
          rw [hd] at hnk
          subst hnk
          have hq := eq_nil_run hd a b w (u := ρ a) (v := ρ b) hp
          cases op <;> simp at hg
          · subst hg; exact key hq.1 (.c _)
          · subst hg; exact key hq.2 (.c _)
  cases y with
  | c u =>
    cases z with
    | c v =>
      have e1 := hy.c_inv
      have e2 := hz.c_inv
      cases u with
      | int k p =>
        cases v with
        | int k' q =>
          simp only [pstep, Option.map_eq_some_iff] at hs
          obtain ⟨r, hr, rfl⟩ := hs
          refine key (v := r) ?_ (.c _)
          rw [e1, e2, Sem.run_bind]
          have hg : (eqGuard op t a b (.int k p) (.int k' q)).run E.P w = .ok () w := by
            unfold eqGuard; cases op <;> simp
          rw [hg]
          exact binI_run t hr w
        | _ => exact gen (by simpa only [pstep] using hs)
      | _ => exact gen (by simpa only [pstep] using hs)
    | _ => exact gen (by simpa only [pstep] using hs)
  | _ => exact gen (by simpa only [pstep] using hs)
end
end Go.Sx
