import Derived.Test.YtdaicpekdnkafaaGreatDoorSxJ
namespace Go.Sx
open Go Go.RowKit
section
variable {E : Env} {ρ : Operand → Value} {M : BMap} {F : Nat → Option AB} {w : World}

theorem checkKey_run {P : Program} {kt : TypeId} {d : TypeDesc} (hd : P.underlying kt = some d) (hk : keyDesc d = true) (b : Bool) (v : Value) (w : World) :
    (Instr.checkKey b 10000 kt v).run P w = .ok () w := by
  show (Instr.checkKey b (9999 + 1) kt v).run P w = _
  rw [Instr.checkKey.eq_2]
  cases d <;> simp [keyDesc] at hk <;> simp [run_underlying hd]

theorem sameNow_key {d : TypeDesc} (hk : keyDesc d = true) {u v : Value} {r : Bool} (h : keySame (isStrD d) u v = some r) : Instr.sameNow d u v = some r := by
  cases d <;> simp [keyDesc] at hk <;> simp only [isStrD] at h
  · cases u <;> cases v <;> simp only [keySame] at h <;> first | (cases h; done) | skip
    obtain ⟨hp, rfl⟩ := bif_true h
    simp at hp; simp [Instr.sameNow, hp]
  · cases u <;> cases v <;> simp only [keySame] at h <;> first | (cases h; done) | skip
    injection h with h; subst h; rfl

/-- What is found in the model's map. -/
theorem find_rel {d : TypeDesc} (hk : keyDesc d = true) {k : Value} : ∀ {es : List (Value × AV × Nat)} {ms : List MapEntry} {i : Nat} {r : Option (Nat × AV)},
    ms.length = es.length → (∀ (j : Nat) a x n, es[j]? = some (a, x, n) → ∃ e, ms[j]? = some e ∧ e.key = a ∧ e.born = n ∧ VRel M x e.val) →
    findA (isStrD d) k es i = some r → ∃ r', Instr.findNow d k ms i = some r' ∧
      (match r with
       | none => r' = none
       | some (p, x) => ∃ v, r' = some (p, v) ∧ VRel M x v ∧ i ≤ p ∧ ∃ a n, es[p - i]? = some (a, x, n) ∧ keySame (isStrD d) k a = some true) := by
  intro es
  induction es with
  | nil =>
    intro ms i r hl _ hf
    simp [findA] at hf; subst hf
    have : ms = [] := by simpa using hl
    subst this; exact ⟨none, rfl, rfl⟩
  | cons e es ih =>
    intro ms i r hl hh hf
    obtain ⟨a, x, n⟩ := e
    cases ms with
    | nil => simp at hl
    | cons m ms =>
      obtain ⟨m', h1, h2, h3, h4⟩ := hh 0 a x n rfl
      simp at h1; subst h1
      simp only [findA] at hf
      cases hs : keySame (isStrD d) k a with
      | none => rw [hs] at hf; cases hf
      | some t =>
        rw [hs] at hf
        have hsn := sameNow_key hk hs
        rw [← h2] at hsn
        cases t with
        | true =>
          simp only [Option.some.injEq] at hf; subst hf
          exact ⟨some (i, m.val), by simp [Instr.findNow, hsn], _, rfl, h4, Nat.le_refl _, a, n, by simp, hs⟩
        | false =>
          simp only at hf
          obtain ⟨r', p, q⟩ := ih (ms := ms) (i := i + 1) (by simpa using hl) (fun j a x n hj => hh (j + 1) a x n (by simpa using hj)) hf
          refine ⟨r', by simp [Instr.findNow, hsn, p], ?_⟩
          cases r with
          | none => exact q
          | some pr =>
            obtain ⟨p', x'⟩ := pr
            obtain ⟨v, e1, e2, e3, a', n', e4, e5⟩ := q
            refine ⟨v, e1, e2, by omega, a', n', ?_, e5⟩
            rw [show p' - i = (p' - (i + 1)) + 1 by omega]; simpa using e4

theorem findKey_run {P : Program} {kt : TypeId} {d : TypeDesc} (hd : P.underlying kt = some d) {k : Value} {ms : List MapEntry} {r : Option (Nat × Value)} (h : Instr.findNow d k ms 0 = some r) (w : World) :
    (Instr.findKey kt k ms).run P w = .ok r w := by
  simp [Instr.findKey, run_underlying hd, h]

theorem getObj_map {P : Program} {w : World} {r : Nat} {arr : Array MapEntry} {c : Nat} (h : w.heap[r]? = some (.map arr c)) : (getObj r).run P w = .ok (.map arr c) w := by
  simp [getObj, Sem.run, h]

theorem lookup_sim (H : HRel E.W0 M F w) {t kt e : TypeId} {d : TypeDesc} {z : AV} {ok : Bool} (hu : E.P.underlying t = some (.map kt e)) (hd : E.P.underlying kt = some d) (hk : keyDesc d = true)
    (hz : zeroV E.P e = some z) {x y r : AV} {m k : Value} (hx : VRel M x m) (hy : VRel M y k) (hs : lstep E (.lookup (isStrD d) z ok) [x, y] F = some r) :
    ∃ u, (Instr.lookup t m k ok).run E.P w = .ok u w ∧ VRel M r u := by
  obtain ⟨zv, hzr, hzz⟩ : ∃ zv, (∀ w : World, (zeroValue e).run E.P w = .ok zv w) ∧ VRel M z zv := by
    simp only [zeroV, Option.map_eq_some_iff, Option.bind_eq_some_iff] at hz
    obtain ⟨v, ⟨i, hi, hz⟩, rfl⟩ := hz
    exact ⟨v, fun w => run_zeroValue w hi hz, norm_rel M v⟩
  cases y <;> simp only [lstep] at hs <;> first | (cases hs; done) | skip
  rename_i k'
  have ek := hy.c_inv
  subst ek
  cases hpk : plainKey (isStrD d) k with
  | false => rw [hpk] at hs; cases hs
  | true =>
    rw [hpk, cond_true] at hs
    have none_case : some (bif ok then AV.tup [z, .c (.bool false)] else z) = some r → VRel M r (if ok then .tuple #[zv, .bool false] else zv) := by
      intro h
      injection h with h; subst h
      cases ok
      · exact hzz
      · exact .tup' (LRel.cons hzz (LRel.cons (.c _) .nil))
    cases hx with
    | c =>
      cases m <;> (try simp only at hs) <;> first | (cases hs; done) | skip
      rename_i p
      cases p <;> (try simp only at hs) <;> first | (cases hs; done) | skip
      refine ⟨_, ?_, none_case hs⟩
      have hf : ∀ w, (Instr.findKey kt k []).run E.P w = .ok none w := fun w => findKey_run hd (r := none) rfl w
      simp [Instr.lookup, run_underlying hu, hf, checkKey_run hd hk, hzr]
    | mp h =>
      rename_i b cb
      simp only at hs
      split at hs <;> first | (cases hs; done) | skip
      rename_i es clock hF
      obtain ⟨arr, h1, h2, h3⟩ := H.mapAt h hF
      split at hs <;> first | (cases hs; done) | skip
      · rename_i i v hf
        injection hs with hs; subst hs
        obtain ⟨r', p, u, rfl, q, _⟩ := find_rel hk (ms := arr.toList) (by simpa using h2) (fun j a x n hj => by obtain ⟨e, q⟩ := h3 j a x n hj; exact ⟨e, by simpa using q⟩) hf
        refine ⟨if ok then .tuple #[u, .bool true] else u, ?_, ?_⟩
        · simp [Instr.lookup, run_underlying hu, getObj_map h1, checkKey_run hd hk, findKey_run hd p]
        · cases ok
          · exact q
          · exact .tup' (LRel.cons q (LRel.cons (.c _) .nil))
      · rename_i hf
        obtain ⟨r', p, rfl⟩ := find_rel hk (ms := arr.toList) (by simpa using h2) (fun j a x n hj => by obtain ⟨e, q⟩ := h3 j a x n hj; exact ⟨e, by simpa using q⟩) hf
        refine ⟨_, ?_, none_case hs⟩
        simp [Instr.lookup, run_underlying hu, getObj_map h1, findKey_run hd p, checkKey_run hd hk, hzr]
    | _ => cases hs

theorem mlen_sim (H : HRel E.W0 M F w) {t ty kt e : TypeId} (hu : E.P.underlying t = some (.map kt e)) {x r : AV} {m : Value} (hx : VRel M x m) (hs : lstep E .mlen [x] F = some r) :
    ∃ u, (Builtin.len_ #[t] ty #[m]).run E.P w = .ok u w ∧ VRel M r u := by
  cases hx with
  | c =>
    cases m <;> simp only [lstep] at hs <;> first | (cases hs; done) | skip
    rename_i p
    cases p <;> simp only at hs <;> first | (cases hs; done) | skip
    injection hs with hs; subst hs
    exact ⟨_, by simp [Builtin.len_, run_underlying hu, goInt], .c _⟩
  | mp h =>
    simp only [lstep] at hs
    split at hs <;> first | (cases hs; done) | skip
    rename_i es clock hF
    injection hs with hs; subst hs
    obtain ⟨arr, h1, h2, h3⟩ := H.mapAt h hF
    exact ⟨.int .i64 es.length, by simp [Builtin.len_, run_underlying hu, getObj_map h1, goInt, h2], .c _⟩
  | _ => simp [lstep] at hs
end
end Go.Sx
