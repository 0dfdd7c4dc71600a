import Derived.Test.YtdaicpekdnkafaaGreatDoorSxF
namespace Go.Sx
open Go Go.RowKit
section
variable {E : Env} {ρ : Operand → Value} {M : BMap} {w : World}

theorem bif_true {c : Bool} {α : Type} {a x : α} (h : (bif c then some a else none) = some x) : c = true ∧ a = x := by
  cases c
  · cases h
  · exact ⟨rfl, by injection h⟩

theorem pick_sim {c a b : Operand} {xs : List AV} {x : AV} (hx : LRel M xs [ρ c, ρ a, ρ b]) (hs : pstep E .pick xs = some x) :
    Ans E M w (do pure (.value (if ← asBool (ρ c) then ρ a else ρ b))) x := by
  obtain ⟨y, z, u, rfl, hy, hz, hu⟩ := hx.inv3
  cases y <;> simp only [pstep] at hs <;> first | (cases hs; done) | skip
  rename_i v
  cases v <;> simp only [pstep] at hs <;> first | (cases hs; done) | skip
  rename_i t
  injection hs with hs
  have e := hy.c_inv
  cases t
  · simp only [cond_false] at hs; subst hs; exact ans_val (by simp [e, asBool]) hu
  · simp only [cond_true] at hs; subst hs; exact ans_val (by simp [e, asBool]) hz

theorem nilCheck_sim (hE : EnvOk E) {o : Oper} {a : Operand} (ho : o.op = .nilCheck a) {xs : List AV} {x : AV} (hx : LRel M xs [ρ a]) (hs : pstep E .nilCheck xs = some x) : Ans E M w (execOp ρ o) x := by
  obtain ⟨y, rfl, hy⟩ := hx.inv1
  simp only [execOp, ho]
  generalize ρ a = ra at hx hy ⊢
  cases hy with
  | c =>
    cases ra <;> simp only [pstep] at hs <;> first | (cases hs; done) | skip
    rename_i p
    cases p <;> simp only at hs <;> first | (cases hs; done) | skip
    injection hs with hs; subst hs
    exact ans_val rfl (.c _)
  | ptr h => simp only [pstep] at hs; injection hs with hs; subst hs; exact ans_val rfl (.ptr h)
  | iface h => simp only [pstep] at hs; injection hs with hs; subst hs; exact ans_val rfl (.iface h)
  | fn hn hh hn' hh' =>
    rename_i f l k vs us
    cases f with
    | func f => simp only [pstep] at hs; injection hs with hs; subst hs; exact ans_val rfl (.fn hn hh hn' hh')
    | method name =>
      cases l with
      | nil => simp [pstep] at hs
      | cons y l =>
        cases l with
        | cons _ _ => cases y <;> simp [pstep] at hs
        | nil =>
          cases k with
          | cons _ _ => cases y <;> simp [pstep] at hs
          | nil =>
            cases y with
            | iface t' x' =>
              simp only [pstep] at hs
              cases hm : E.meth t' name with
              | none => rw [hm] at hs; cases hs
              | some g =>
                rw [hm] at hs
                injection hs with hs; subst hs
                have hvs : ∃ u, vs = #[.iface t' u] := by
                  obtain ⟨v0, hv0, hr⟩ := LRel.get (M := M) (l := [.iface t' x']) (vs := vs.toList) ⟨by simpa using hn, fun i x v hx hv => hh i x v hx (by simpa using hv)⟩ (i := 0) rfl
                  cases hr with
                  | iface hr => rename_i u; exact ⟨u, by apply Array.ext'; apply List.ext_getElem?; intro i; cases i with | zero => simpa using hv0 | succ i => simp; simp at hn; omega⟩
                obtain ⟨u, rfl⟩ := hvs
                refine ans_val ?_ (.fn hn hh hn' hh')
                have := (hE.meth t' name g hm u w).1
                simp [this]
            | _ => simp [pstep] at hs
    | _ => simp [pstep] at hs
  | _ => simp [pstep] at hs

theorem addr_add_ptr {cb s o n : Nat} : (⟨cb, s + o, none⟩ : Addr).add n = ⟨cb, s + (o + n), none⟩ := by
  unfold Addr.add; split
  · simp_all
  · simp [Nat.add_assoc]

theorem fieldAddr_sim {s : TypeId} {fs : Array Field} {f : Nat} {fd : Field} {n : Nat} (hu : E.P.underlying s = some (.struct fs)) (hf : fs[f]? = some fd)
    (hn : sizeP E.P fd.type = some n) (h0 : n ≠ 0) {a : Operand} {xs : List AV} {x : AV} (hx : LRel M xs [ρ a]) (hs : pstep E (.fieldAddr fd.offset) xs = some x) :
    Ans E M w (do pure (.value (← Instr.fieldAt s (ρ a) f))) x := by
  obtain ⟨y, rfl, hy⟩ := hx.inv1
  have hrun : ∀ p : Addr, ρ a = .pointer (some p) → ((do pure (.value (← Instr.fieldAt s (ρ a) f)) : Sem Next)).run E.P w = .ok (.value (.pointer (some (p.add fd.offset)))) w := by
    intro p hp
    simp [Instr.fieldAt, run_underlying hu, hf, hp, Instr.sureAddr, fieldPlace, run_sizeOf' w hn, h0]
  generalize ρ a = ra at *
  cases hy with
  | ptr h =>
    simp only [pstep] at hs; injection hs with hs; subst hs
    refine ans_val (hrun _ rfl) ?_
    rw [addr_add_ptr]; exact .ptr h
  | c =>
    cases ra <;> simp only [pstep] at hs <;> first | (cases hs; done) | skip
    rename_i p
    cases p <;> simp only at hs <;> first | (cases hs; done) | skip
    obtain ⟨hp, rfl⟩ := bif_true hs
    exact ans_val (hrun _ rfl) (.c _)
  | _ => simp [pstep] at hs

theorem ofNat_toNat {i : Int} (h : 0 ≤ i) : (i.toNat : Int) = i := Int.toNat_of_nonneg h

theorem indexAddr_sim {t e : TypeId} {n : Nat} (hu : E.P.underlying t = some (.slice e)) (hn : sizeP E.P e = some n) {a b : Operand} {xs : List AV} {x : AV}
    (hx : LRel M xs [ρ a, ρ b]) (hs : pstep E (.indexAddr n) xs = some x) :
    Ans E M w (do pure (.value (← Instr.indexAt t (ρ a) (ρ b)))) x := by
  obtain ⟨y, z, rfl, hy, hz⟩ := hx.inv2
  generalize ρ a = ra at *
  generalize ρ b = rb at *
  cases z <;> simp only [pstep] at hs <;> first | (cases hs; done) | skip
  rename_i v
  have e2 := hz.c_inv
  subst e2
  cases rb <;> simp only [pstep] at hs <;> first | (cases hs; done) | skip
  rename_i k i
  have hrun : ∀ (p : Addr) (l c : Nat), ra = .slice (some p) l c → 0 ≤ i → i < l → ((do pure (.value (← Instr.indexAt t ra (.int k i))) : Sem Next)).run E.P w = .ok (.value (.pointer (some (p.add (i.toNat * n))))) w := by
    intro p l c hp h0 h1
    simp [Instr.indexAt, asIntOf, run_underlying hu, hp, run_sizeOf' w hn, h0, h1]
  cases hy with
  | sl h hl hs' ho =>
    rename_i b o l sz cb off cap
    obtain ⟨hp, rfl⟩ := bif_true hs
    simp only [Bool.and_eq_true, decide_eq_true_eq] at hp
    obtain ⟨⟨h1, h2⟩, h3⟩ := hp
    have h1 := Nat.eq_of_beq_eq_true h1
    subst h1
    refine ans_val (hrun _ _ _ rfl h2 h3) ?_
    have hc : cap ≠ 0 := by omega
    rw [ho hc, addr_add_ptr]
    exact .ptr h
  | c =>
    cases ra <;> (try simp only at hs) <;> first | (cases hs; done) | skip
    rename_i p l c
    cases p <;> (try simp only at hs) <;> first | (cases hs; done) | skip
    obtain ⟨hp, rfl⟩ := bif_true hs
    simp only [Bool.and_eq_true, decide_eq_true_eq] at hp
    exact ans_val (hrun _ _ _ rfl hp.1 hp.2) (.c _)
  | _ => cases hs

theorem indexArr_sim {t e : TypeId} {n len : Nat} (hu : E.P.underlying t = some (.array len e)) (hn : sizeP E.P e = some n) {a b : Operand} {xs : List AV} {x : AV}
    (hx : LRel M xs [ρ a, ρ b]) (hs : pstep E (.indexArr len n) xs = some x) :
    Ans E M w (do pure (.value (← Instr.indexAt t (ρ a) (ρ b)))) x := by
  obtain ⟨y, z, rfl, hy, hz⟩ := hx.inv2
  generalize ρ a = ra at *
  generalize ρ b = rb at *
  cases z <;> simp only [pstep] at hs <;> first | (cases hs; done) | skip
  rename_i v
  have e2 := hz.c_inv
  subst e2
  cases rb <;> simp only [pstep] at hs <;> first | (cases hs; done) | skip
  rename_i k i
  have hrun : ∀ (p : Addr), ra = .pointer (some p) → 0 ≤ i → i < len → ((do pure (.value (← Instr.indexAt t ra (.int k i))) : Sem Next)).run E.P w = .ok (.value (.pointer (some (p.add (i.toNat * n))))) w := by
    intro p hp h0 h1
    simp [Instr.indexAt, asIntOf, run_underlying hu, hp, Instr.sureAddr, run_sizeOf' w hn, h0, h1]
  cases hy with
  | ptr h =>
    obtain ⟨hp, rfl⟩ := bif_true hs
    simp only [Bool.and_eq_true, decide_eq_true_eq] at hp
    refine ans_val (hrun _ rfl hp.1 hp.2) ?_
    rw [addr_add_ptr]
    exact .ptr h
  | c =>
    cases ra <;> (try simp only at hs) <;> first | (cases hs; done) | skip
    rename_i p
    cases p <;> (try simp only at hs) <;> first | (cases hs; done) | skip
    obtain ⟨hp, rfl⟩ := bif_true hs
    simp only [Bool.and_eq_true, decide_eq_true_eq] at hp
    exact ans_val (hrun _ rfl hp.1 hp.2) (.c _)
  | _ => cases hs

theorem build_sim {t : TypeId} {places : Nat → Option (Nat × Nat)} {z : List AV} {zv : Value} {ps : List (Nat × Nat)} {parts : Array (Nat × Operand)} {xs : List AV} {x : AV}
    (hz : LRel M z zv.cells.toList) (hx : LRel M xs (parts.toList.map fun p => ρ p.2)) (hl : ps.length = parts.size)
    (hp : ∀ (i : Nat) p q, ps[i]? = some p → parts.toList[i]? = some q → places q.1 = some p) (hs : pstep E (.build z ps) xs = some x)
    (hrun : ∀ cells, Instr.fill places zv.cells (parts.map fun (i, x) => (i, ρ x)).toList = some cells → (Instr.build t (parts.map fun (i, x) => (i, ρ x))).run E.P w = .ok (.agg cells) w) :
    Ans E M w (do pure (.value (← Instr.build t (parts.map fun (i, x) => (i, ρ x))))) x := by
  simp only [pstep, Option.map_eq_some_iff] at hs
  obtain ⟨cs, hf, rfl⟩ := hs
  have hmap : (parts.map fun (i, x) => (i, ρ x)).toList = parts.toList.map fun p => (p.1, ρ p.2) := by simp
  obtain ⟨arr, h1, h2⟩ := fill_sim (M := M) (places := places) (parts.toList.map fun p => (p.1, ρ p.2)) (ps := ps) (xs := xs) (arr := zv.cells) hz
    (by simpa [List.map_map, Function.comp_def] using hx) (by simpa using hl) (fun i p q h h' => by
      simp only [List.getElem?_map, Option.map_eq_some_iff] at h'
      obtain ⟨q', hq', rfl⟩ := h'
      exact hp i p q' h hq') hf
  rw [← hmap] at h1
  exact ans_val (by simp [hrun _ h1]) (.agg' h2)
end
end Go.Sx
