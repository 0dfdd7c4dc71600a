/- A call that looks at no memory may be read apart: from the empty memory, its blocks put behind all others. -/
import Derived.Test.YtdaicpekdnkafaaGreatDoorSyC
namespace Go.Sx
open Go Go.RowKit

mutual
def AV.sh (k : Nat) : AV → AV
  | .c v => .c v
  | .ptr b o => .ptr (b + k) o
  | .sl b o l s => .sl (b + k) o l s
  | .mp b => .mp (b + k)
  | .iface t x => .iface t (x.sh k)
  | .agg l => .agg (shL k l)
  | .tup l => .tup (shL k l)
  | .fn f l m => .fn f (shL k l) (shL k m)
def shL (k : Nat) : List AV → List AV
  | [] => []
  | x :: l => x.sh k :: shL k l
end

theorem shL_eq (k : Nat) (l : List AV) : shL k l = l.map (AV.sh k) := by
  induction l with
  | nil => rfl
  | cons x l ih => simp [shL, ih]

theorem VRel.sh {M M' : BMap} {k : Nat} (hM : ∀ b cb, M b = some cb → M' (b + k) = some cb) {x : AV} {v : Value} (h : VRel M x v) : VRel M' (x.sh k) v := by
  have row : ∀ {l : List AV} {vs : Array Value}, (∀ (i : Nat) x v, l[i]? = some x → vs[i]? = some v → VRel M' (x.sh k) v) → ∀ (i : Nat) x v, (shL k l)[i]? = some x → vs[i]? = some v → VRel M' x v := by
    intro l vs ih i x v hx hv
    rw [shL_eq, List.getElem?_map, Option.map_eq_some_iff] at hx
    obtain ⟨y, hy, rfl⟩ := hx
    exact ih i y v hy hv
  induction h with
  | c v => exact .c v
  | ptr h => exact .ptr (hM _ _ h)
  | sl h a b c => exact .sl (hM _ _ h) a b c
  | mp h => exact .mp (hM _ _ h)
  | iface _ ih => exact .iface ih
  | agg hn _ ih => exact .agg (by rw [shL_eq]; simpa using hn) (row ih)
  | tup hn _ ih => exact .tup (by rw [shL_eq]; simpa using hn) (row ih)
  | fn hn _ hn' _ ih ih' => exact .fn (by rw [shL_eq]; simpa using hn) (row ih) (by rw [shL_eq]; simpa using hn') (row ih')

def shE (k : Nat) : List (Value × AV × Nat) → List (Value × AV × Nat)
  | [] => []
  | (u, x, n) :: l => (u, x.sh k, n) :: shE k l
theorem shE_eq (k : Nat) (l : List (Value × AV × Nat)) : shE k l = l.map fun e => (e.1, e.2.1.sh k, e.2.2) := by
  induction l with
  | nil => rfl
  | cons e l ih => obtain ⟨a, b, c⟩ := e; simp [shE, ih]

def AB.sh (k : Nat) : AB → AB
  | .cells l e => .cells (shL k l) e
  | .map es n => .map (shE k es) n
  | .siter s p => .siter s p
  | .miter m a l b => .miter (m.map (· + k)) a l b
  | .dead => .dead

theorem AB.sh_dead {k : Nat} {x : AB} : (x.sh k).isDead = x.isDead := by cases x <;> rfl

theorem BRel.sh {M M' : BMap} {k : Nat} (hM : ∀ b cb, M b = some cb → M' (b + k) = some cb) {cb : CB} {x : AB} {o : Obj} (h : BRel M cb x o) : BRel M' cb (x.sh k) o := by
  cases x <;> cases o <;> simp only [BRel, AB.sh] at h ⊢ <;> first
    | exact h
    | skip
  · obtain ⟨a, b, c, d, f, g⟩ := h
    refine ⟨a, b, by rw [shL_eq]; simpa using c, d, ?_, fun e => by rw [shL_eq]; simpa using g e⟩
    intro i x hx
    rw [shL_eq, List.getElem?_map, Option.map_eq_some_iff] at hx
    obtain ⟨y, hy, rfl⟩ := hx
    obtain ⟨v, p, q, r⟩ := f i y hy
    exact ⟨v, p, q, r.sh hM⟩
  · obtain ⟨a, b, f⟩ := h
    refine ⟨a, by rw [shE_eq]; simpa using b, ?_⟩
    intro i u x n hx
    rw [shE_eq, List.getElem?_map, Option.map_eq_some_iff] at hx
    obtain ⟨⟨u', y, n'⟩, hy, e⟩ := hx
    simp only [Prod.mk.injEq] at e
    obtain ⟨rfl, rfl, rfl⟩ := e
    obtain ⟨v, p1, p2, p3, p4⟩ := f i u' y n' hy
    exact ⟨v, p1, p2, p3, p4.sh hM⟩
  · obtain ⟨a, b, c, d, f⟩ := h
    refine ⟨a, b, c, d, ?_⟩
    rename_i m _ _ _ _ _ _ _
    cases m with
    | none => exact f
    | some m =>
      obtain ⟨cm, f1, f2⟩ := f
      exact ⟨cm, hM _ _ f1, f2⟩

/-- The first n blocks of g behind h. -/
def catN (k : Nat) (h g : H) : Nat → H
  | 0 => h
  | n + 1 => (catN k h g n).push (((g.get n).getD .dead).sh k)
def H.cat (h g : H) : H := catN h.len h g g.len

theorem catN_len (k : Nat) (h g : H) : ∀ n, (catN k h g n).len = h.len + n := by
  intro n
  induction n with
  | zero => rfl
  | succ n ih => simp [catN, ih]; omega
theorem catN_get (k : Nat) (h g : H) : ∀ n b, (catN k h g n).get b = if b < h.len then h.get b else if b < h.len + n then some (((g.get (b - h.len)).getD .dead).sh k) else none := by
  intro n
  induction n with
  | zero =>
    intro b
    simp only [catN, Nat.add_zero]
    by_cases e : b < h.len
    · rw [if_pos e]
    · rw [if_neg e, if_neg e]
      cases e' : h.get b with
      | none => rfl
      | some x => exact absurd (Sx.H.get_lt e') e
  | succ n ih =>
    intro b
    simp only [catN]
    rw [Sx.H.get_push, catN_len, ih]
    by_cases e : b = h.len + n
    · subst e
      rw [if_pos rfl, if_neg (by omega), if_pos (by omega)]
      rw [show h.len + n - h.len = n by omega]
    · rw [if_neg e]
      by_cases e1 : b < h.len
      · rw [if_pos e1, if_pos e1]
      · rw [if_neg e1, if_neg e1]
        by_cases e2 : b < h.len + n
        · rw [if_pos e2, if_pos (by omega)]
        · rw [if_neg e2, if_neg (by omega)]

theorem cat_len (h g : H) : (h.cat g).len = h.len + g.len := catN_len _ _ _ _

/-- A step from the empty memory is one from any. -/
theorem Step.apart {w0 : World} {M0 : BMap} {h g : H} {w w' : World} {M1 : BMap} (K : HRel w0 M0 h.get w) (hf : Fresh M0 h.len (h.len + g.len)) (s : Step w0 (fun _ => none) H.empty w M1 g w') :
    Step w0 M0 h w (fun b => if b < h.len ∨ h.len + g.len ≤ b then M0 b else M1 (b - h.len)) (h.cat g) w' ∧ ∀ b cb, M1 b = some cb → (fun b => if b < h.len ∨ h.len + g.len ≤ b then M0 b else M1 (b - h.len)) (b + h.len) = some cb := by
  have none0 : ∀ i, ¬ Own (fun _ => none) H.empty.get i := by rintro i ⟨b, cb, k, m, _⟩; cases m
  have keep : ∀ i, i < w.heap.size → w'.heap[i]? = w.heap[i]? := fun i hi => s.fram.keep i hi (none0 i)
  have hnew : ∀ b cb, M1 b = some cb → b < g.len := fun b cb m => (s.new b rfl (by rw [m]; simp)).2
  have hM1 : ∀ b cb, M1 b = some cb → (fun b => if b < h.len ∨ h.len + g.len ≤ b then M0 b else M1 (b - h.len)) (b + h.len) = some cb := by
    intro b cb m
    have := hnew b cb m
    simp only
    rw [if_neg (by omega), show b + h.len - h.len = b by omega]
    exact m
  have hM0 : MLe M0 (fun b => if b < h.len ∨ h.len + g.len ≤ b then M0 b else M1 (b - h.len)) := by
    intro b cb m
    simp only
    by_cases e : b < h.len ∨ h.len + g.len ≤ b
    · rw [if_pos e]; exact m
    · rw [hf b (by omega) (by omega)] at m; cases m
  have get : ∀ b, (h.cat g).get b = if b < h.len then h.get b else if b < h.len + g.len then some (((g.get (b - h.len)).getD .dead).sh h.len) else none := catN_get _ _ _ _
  -- a living block of the new ones
  have young : ∀ b cb k, ¬ b < h.len → (h.cat g).get b = some k → k.isDead = false → (if b < h.len ∨ h.len + g.len ≤ b then M0 b else M1 (b - h.len)) = some cb →
      ∃ k', g.get (b - h.len) = some k' ∧ k'.isDead = false ∧ k = k'.sh h.len ∧ M1 (b - h.len) = some cb ∧ b < h.len + g.len := by
    intro b cb k hb e d m
    rw [get, if_neg hb] at e
    by_cases e2 : b < h.len + g.len
    · rw [if_pos e2] at e
      rw [if_neg (by omega)] at m
      injection e with e
      cases eg : g.get (b - h.len) with
      | none => rw [eg] at e; subst e; cases d
      | some k' =>
        rw [eg] at e
        subst e
        exact ⟨k', rfl, by rw [← AB.sh_dead (k := h.len)]; exact d, rfl, m, e2⟩
    · rw [if_neg e2] at e; cases e
  have elder : ∀ b cb k, b < h.len → (h.cat g).get b = some k → (if b < h.len ∨ h.len + g.len ≤ b then M0 b else M1 (b - h.len)) = some cb → h.get b = some k ∧ M0 b = some cb := by
    intro b cb k hb e m
    rw [get, if_pos hb] at e
    rw [if_pos (.inl hb)] at m
    exact ⟨e, m⟩
  have late : ∀ b cb k, M1 b = some cb → g.get b = some k → k.isDead = false → w.heap.size ≤ cb.blk := by
    intro b cb k m e d
    rcases s.own cb.blk ⟨b, cb, k, m, e, d, rfl⟩ with x | x
    · exact absurd x (none0 _)
    · exact x
  refine ⟨⟨by rw [cat_len]; omega, hM0, ?_, ⟨?_, ?_, ?_, ?_⟩, ⟨s.fram.size, fun i hi _ => keep i hi⟩, ?_, ?_⟩, hM1⟩
  · intro b h0 h1
    by_cases e : b < h.len ∨ h.len + g.len ≤ b
    · rw [if_pos e] at h1; exact absurd h0 h1
    · rw [cat_len]; omega
  · intro b cb k m e d
    by_cases hb : b < h.len
    · obtain ⟨e', m'⟩ := elder b cb k hb e m
      obtain ⟨o, p, q⟩ := K.has b cb k m' e' d
      exact ⟨o, by rw [keep _ (K.bnd b cb m').2]; exact p, q.mono hM0⟩
    · obtain ⟨k', e', d', rfl, m', _⟩ := young b cb k hb e d m
      obtain ⟨o, p, q⟩ := s.rel.has _ cb k' m' e' d'
      exact ⟨o, p, q.sh hM1⟩
  · intro b b' cb cb' k k' m e d m' e' d' hblk
    by_cases hb : b < h.len <;> by_cases hb' : b' < h.len
    · obtain ⟨a1, a2⟩ := elder b cb k hb e m
      obtain ⟨a3, a4⟩ := elder b' cb' k' hb' e' m'
      exact K.inj _ _ _ _ _ _ a2 a1 d a4 a3 d' hblk
    · obtain ⟨a1, a2⟩ := elder b cb k hb e m
      obtain ⟨j, a3, a4, _, a5, _⟩ := young b' cb' k' hb' e' d' m'
      have := late _ _ _ a5 a3 a4
      have := (K.bnd b cb a2).2
      omega
    · obtain ⟨a1, a2⟩ := elder b' cb' k' hb' e' m'
      obtain ⟨j, a3, a4, _, a5, _⟩ := young b cb k hb e d m
      have := late _ _ _ a5 a3 a4
      have := (K.bnd b' cb' a2).2
      omega
    · obtain ⟨j, a3, a4, _, a5, _⟩ := young b cb k hb e d m
      obtain ⟨j', b3, b4, _, b5, _⟩ := young b' cb' k' hb' e' d' m'
      have := s.rel.inj _ _ _ _ _ _ a5 a3 a4 b5 b3 b4 hblk
      omega
  · intro b cb m
    by_cases e : b < h.len ∨ h.len + g.len ≤ b
    · rw [if_pos e] at m
      have := K.bnd b cb m
      have := s.fram.size
      omega
    · rw [if_neg e] at m
      exact s.rel.bnd _ cb m
  · exact s.rel.old
  · intro b hb _
    rw [get, if_pos hb]
  · rintro i ⟨b, cb, k, m, e, d, rfl⟩
    by_cases hb : b < h.len
    · obtain ⟨a1, a2⟩ := elder b cb k hb e m
      exact .inl ⟨b, cb, k, a2, a1, d, rfl⟩
    · obtain ⟨j, a3, a4, _, a5, _⟩ := young b cb k hb e d m
      exact .inr (late _ _ _ a5 a3 a4)

def allConst : List AV → Bool
  | [] => true
  | .c _ :: l => allConst l
  | _ => false
theorem allConst_rel {M M' : BMap} : ∀ {xs : List AV} {vs : List Value}, allConst xs = true → LRel M xs vs → LRel M' xs vs := by
  intro xs
  induction xs with
  | nil => intro vs _ h; rw [h.nil_inv]; exact LRel.nil
  | cons x l ih =>
    intro vs hc h
    obtain ⟨v, us, rfl, hv, ht⟩ := h.cons_inv
    cases x <;> simp [allConst] at hc
    rw [hv.c_inv]
    exact LRel.cons (.c _) (ih hc ht)

/-- A call on constants, read from the empty memory, as a summary. -/
def apartS (xs : List AV) (r : AV) (g : H) : List AV → H → Option (AV × H) := fun ys h =>
  bif sameL ys xs then some (r.sh h.len, h.cat g) else none

theorem apart_ok {E : Env} {S : FuncId → Option (List AV → H → Option (AV × H))} {F : FuncId → Option AFn} (T : TabOk E S F) {n : Nat} {f : FuncId} {xs : List AV} {r : AV} {g : H} (he : X E S F n f xs H.empty = some (r, g)) (hx : allConst xs = true) : SumOk E f (apartS xs r g) := by
  intro ys h r' h' e
  unfold apartS at e
  cases hs : sameL ys xs with
  | false => rw [hs] at e; cases e
  | true =>
    rw [hs, cond_true] at e
    simp only [Option.some.injEq, Prod.mk.injEq] at e
    obtain ⟨rfl, rfl⟩ := e
    have := sameL_eq hs
    subst this
    refine ⟨by rw [cat_len]; omega, ?_⟩
    intro M w vs K hl hf
    rw [cat_len] at hf
    refine Calls.mono ((X_ok T n).2 f ys H.empty r g he (fun _ => none) w vs ⟨(by intro b cb k m; cases m), (by intro b b' cb cb' k k' m; cases m), (by intro b cb m; cases m), K.old⟩ (allConst_rel hx hl) (fun _ _ _ => rfl)) ?_
    rintro e w' ⟨v, M1, rfl, hv, s⟩
    obtain ⟨s', hM⟩ := Step.apart K hf s
    exact ⟨v, _, rfl, hv.sh hM, s'⟩
end Go.Sx
