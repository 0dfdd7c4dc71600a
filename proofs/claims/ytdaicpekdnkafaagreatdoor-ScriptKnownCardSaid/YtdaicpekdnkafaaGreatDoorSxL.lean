import Derived.Test.YtdaicpekdnkafaaGreatDoorSxK
namespace Go.Sx
open Go Go.RowKit
section
variable {E : Env} {ρ : Operand → Value} {M : BMap} {F : Nat → Option AB} {w : World}

theorem byteArray_whole (s : ByteArray) : (s.extract 0 s.size).data = s.data := by
  simp

/-- What a slice (or a text) that is read comes to. -/
theorem rdSlice_spec (H : HRel E.W0 M F w) {x : AV} {v : Value} {sz n : Nat} {l : List AV} (hx : VRel M x v) (hr : rdSlice E F x sz = some (n, l)) :
    (Builtin.lenOf v).run E.P w = .ok n w ∧ l.length = n * sz ∧
    (∃ arr : Array Value, (Builtin.firstCells sz n v).run E.P w = .ok arr w ∧ LRel M l arr.toList) ∧
    ((∀ s, v ≠ .string s) → ∀ m, m ≤ n → ∃ arr : Array Value, (Builtin.firstCells sz m v).run E.P w = .ok arr w ∧ LRel M (l.take (m * sz)) arr.toList) := by
  have fin : ∀ (a : Addr) (cap : Nat) (vs : List Value), v = .slice (some a) n cap → vs.length = n * sz → (∀ (j : Nat) u, vs[j]? = some u → w.cell? (a.add j) = some u) → LRel M l vs →
      (Builtin.lenOf v).run E.P w = .ok n w ∧ l.length = n * sz ∧
      (∃ arr : Array Value, (Builtin.firstCells sz n v).run E.P w = .ok arr w ∧ LRel M l arr.toList) ∧
      ((∀ s, v ≠ .string s) → ∀ m, m ≤ n → ∃ arr : Array Value, (Builtin.firstCells sz m v).run E.P w = .ok arr w ∧ LRel M (l.take (m * sz)) arr.toList) := by
    intro a cap vs hv hl hc hrel
    subst hv
    have all : ∀ m, m ≤ n → ∃ arr : Array Value, (Builtin.firstCells sz m (.slice (some a) n cap)).run E.P w = .ok arr w ∧ LRel M (l.take (m * sz)) arr.toList := by
      intro m hm
      have hle : m * sz ≤ n * sz := Nat.mul_le_mul_right _ hm
      refine ⟨(vs.take (m * sz)).toArray, ?_, by simpa using hrel.take (m * sz)⟩
      have := run_loadCells_list (P := E.P) w a (vs.take (m * sz)) (fun j u hj => by
        rw [List.getElem?_take] at hj
        split at hj
        · exact hc j u hj
        · cases hj)
      rw [List.length_take, Nat.min_eq_left (by omega)] at this
      simpa [Builtin.firstCells] using this
    refine ⟨by simp [Builtin.lenOf], by have := hrel.1; omega, ?_, fun _ => all⟩
    obtain ⟨arr, p, q⟩ := all n (Nat.le_refl _)
    refine ⟨arr, p, ?_⟩
    have hl' : l.length = n * sz := by have := hrel.1; omega
    rwa [List.take_of_length_le (by omega)] at q
  cases hx with
  | c =>
    cases v <;> simp only [rdSlice] at hr <;> first | (cases hr; done) | skip
    · rename_i s
      obtain ⟨hp, e⟩ := bif_true hr
      simp only [Prod.mk.injEq] at e
      obtain ⟨rfl, rfl⟩ := e
      have hp := Nat.eq_of_beq_eq_true hp
      subst hp
      refine ⟨by simp [Builtin.lenOf], by simp, ⟨_, by simp only [Builtin.firstCells, byteArray_whole]; rfl, ?_⟩, fun h => absurd rfl (h s)⟩
      refine ⟨by simp, fun i x u hx hu => ?_⟩
      simp only [List.getElem?_map, Option.map_eq_some_iff] at hx
      obtain ⟨b, hb, rfl⟩ := hx
      have : u = .int .u8 b.toNat := by
        simp at hu
        obtain ⟨b', hb', rfl⟩ := hu
        have : s.data[i]? = some b := by simpa using hb
        rw [this] at hb'; injection hb' with hb'; subst hb'; rfl
      subst this; exact .c _
    · rename_i p l' cap
      cases p with
      | none =>
        cases l' with
        | succ l' => simp at hr
        | zero =>
          simp only [Option.some.injEq, Prod.mk.injEq] at hr
          obtain ⟨rfl, rfl⟩ := hr
          refine ⟨by simp [Builtin.lenOf], by simp, ⟨#[], by simp [Builtin.firstCells], LRel.nil⟩, fun _ m hm => ⟨#[], by simp [Builtin.firstCells], by simp [LRel.nil]⟩⟩
      | some a =>
        simp only [Option.map_eq_some_iff, Prod.mk.injEq] at hr
        obtain ⟨vs, hv, rfl, rfl⟩ := hr
        obtain ⟨p, q⟩ := oldCells_spec (E.oldOk _ _ _ hv)
        exact fin a cap vs rfl p (fun j u hj => H.oldCell (by simpa using q j u hj)) (LRel.consts vs)
  | sl h hl hs ho =>
    rename_i b o l' s cb off cap
    simp only [rdSlice] at hr
    cases hb : s.beq sz with
    | false => rw [hb] at hr; cases hr
    | true =>
      rw [hb, cond_true] at hr
      have hb := Nat.eq_of_beq_eq_true hb
      subst hb
      cases h0 : l'.beq 0 with
      | true =>
        rw [h0, cond_true] at hr
        simp only [Option.some.injEq, Prod.mk.injEq] at hr
        obtain ⟨rfl, rfl⟩ := hr
        have h0 := Nat.eq_of_beq_eq_true h0
        subst h0
        exact fin _ cap [] rfl (by simp) (fun j u hj => by simp at hj) LRel.nil
      | false =>
        rw [h0, cond_false] at hr
        split at hr <;> first | (cases hr; done) | skip
        rename_i cs e hF
        simp only [Option.map_eq_some_iff, Prod.mk.injEq] at hr
        obtain ⟨r, hc, rfl, rfl⟩ := hr
        obtain ⟨vs, p, q, t⟩ := H.row h hF hc
        have hl0 : l' ≠ 0 := by intro e; subst e; simp at h0
        have := ho (by omega)
        subst this
        exact fin _ cap vs rfl p q t
  | _ => simp [rdSlice] at hr

def byteOfV : Value → UInt8
  | .int .u8 n => UInt8.ofNat n.toNat
  | _ => 0

theorem bytesA_spec : ∀ {l : List AV} {bs : List UInt8} {vs : List Value}, bytesA l = some bs → LRel M l vs → vs.map byteOfV = bs ∧ ∀ c ∈ vs, ∃ n, c = .int .u8 n := by
  intro l
  induction l with
  | nil => intro bs vs h r; simp [bytesA] at h; subst h; rw [r.nil_inv]; simp
  | cons x l ih =>
    intro bs vs h r
    obtain ⟨v, us, rfl, hv, hr⟩ := r.cons_inv
    cases x <;> (try simp only [bytesA] at h) <;> first | (cases h; done) | skip
    rename_i v'
    cases v' <;> (try simp only at h) <;> first | (cases h; done) | skip
    rename_i k n
    cases k <;> (try simp only at h) <;> first | (cases h; done) | skip
    cases hb : bytesA l with
    | none => simp [bytesA, hb] at h
    | some r' =>
      simp only [bytesA, hb] at h
      injection h with h; subst h
      obtain ⟨a, b⟩ := ih hb hr
      have := hv.c_inv
      subst this
      refine ⟨by simp [a, byteOfV], fun c hc => ?_⟩
      rcases List.mem_cons.1 hc with rfl | hc
      · exact ⟨n, rfl⟩
      · exact b c hc

theorem bytesLoop {P : Program} (w : World) {f : Value → ByteArray → Sem (ForInStep ByteArray)} (hf : ∀ n s, f (.int .u8 n) s = pure (.yield (s.push (UInt8.ofNat n.toNat)))) :
    ∀ (cs : List Value) (s : ByteArray), (∀ c ∈ cs, ∃ n, c = .int .u8 n) → (forIn cs s f : Sem ByteArray).run P w = .ok ⟨(s.data.toList ++ cs.map byteOfV).toArray⟩ w := by
  intro cs
  induction cs with
  | nil => intro s _; simp
  | cons c cs ih =>
    intro s h
    obtain ⟨n, rfl⟩ := h c (by simp)
    have := ih (s.push (UInt8.ofNat n.toNat)) (fun c hc => h c (by simp [hc]))
    simp only [List.forIn_cons, hf, Sem.run_bind, Sem.run_pure, Result.andThen_ok, this]
    simp [ByteArray.push, byteOfV]

theorem b2s_sim (H : HRel E.W0 M F w) {x r : AV} {v : Value} (hx : VRel M x v) (hs : lstep E .b2s [x] F = some r) :
    ∃ u, (Conv.bytesToString v).run E.P w = .ok u w ∧ VRel M r u := by
  have main : b2sA E F x = some r → (∀ s, v ≠ .string s) → ∃ u, (Conv.bytesToString v).run E.P w = .ok u w ∧ VRel M r u := by
    intro hs hns
    unfold b2sA at hs
    cases hr : rdSlice E F x 1 with
    | none => rw [hr] at hs; cases hs
    | some p =>
      obtain ⟨n, l⟩ := p
      rw [hr] at hs
      simp only at hs
      cases hb : bytesA l with
      | none => rw [hb] at hs; cases hs
      | some bs =>
        rw [hb] at hs
        injection hs with hs; subst hs
        obtain ⟨h1, h2, ⟨arr, h3, h4⟩, _⟩ := rdSlice_spec H hx hr
        obtain ⟨h5, h6⟩ := bytesA_spec hb h4
        refine ⟨.string ⟨bs.toArray⟩, ?_, .c _⟩
        cases v with
        | string s => exact absurd rfl (hns s)
        | slice a m cap =>
          simp [Builtin.lenOf] at h1
          subst h1
          cases a with
          | none =>
            have : arr = #[] := by simpa [Builtin.firstCells] using h3.symm
            subst this
            simp at h5; subst h5
            simp [Conv.bytesToString]; rfl
          | some a =>
            simp only [Builtin.firstCells, Nat.mul_one] at h3
            simp only [Conv.bytesToString, Sem.run_bind, h3, Result.andThen_ok]
            rw [← Array.forIn_toList, bytesLoop w (fun _ _ => rfl) arr.toList .empty h6, h5]
            simp
        | _ => simp [Builtin.lenOf] at h1
  cases hx with
  | c v =>
    cases v <;> simp only [lstep] at hs <;> first | (cases hs; done) | (exact main hs (fun s => by simp)) 
  | _ => exact main (by simpa only [lstep] using hs) (fun s => by simp)
end
end Go.Sx
