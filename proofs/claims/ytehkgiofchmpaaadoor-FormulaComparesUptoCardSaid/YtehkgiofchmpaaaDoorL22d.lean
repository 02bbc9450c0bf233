/- The order of formulas is an order. No program. -/
import Derived.Test.YtehkgiofchmpaaaDoorS22c
namespace Go.Abs
open Go
set_option linter.unusedVariables false
set_option linter.unusedSimpArgs false

/-- A comparison that is an order: what it says of three. -/
structure Tri (xy yx yz xz : Int) : Prop where
  anti : yx = -xy
  rng : (xy = -1 ∨ xy = 0 ∨ xy = 1) ∧ (yz = -1 ∨ yz = 0 ∨ yz = 1) ∧ (xz = -1 ∨ xz = 0 ∨ xz = 1)
  le : xy ≤ 0 → yz ≤ 0 → xz ≤ 0 ∧ ((xy = 0 ∧ yz = 0) ↔ xz = 0)
  ge : 0 ≤ xy → 0 ≤ yz → 0 ≤ xz ∧ ((xy = 0 ∧ yz = 0) ↔ xz = 0)

theorem numC_tri (x y z : Int) : Tri (numC x y) (numC y x) (numC y z) (numC x z) := by
  constructor
  all_goals unfold numC
  all_goals (repeat' split)
  all_goals omega

/-- First the one, then the other. -/
def thenC (a b : Int) : Int := if a = 0 then b else a
theorem Tri.then {a a' b c d d' e f : Int} (h : Tri a a' b c) (k : Tri d d' e f) : Tri (thenC a d) (thenC a' d') (thenC b e) (thenC c f) := by
  obtain ⟨h1, hr, h2, h3⟩ := h
  obtain ⟨k1, kr, k2, k3⟩ := k
  subst h1 k1
  constructor
  all_goals unfold thenC
  all_goals (repeat' split)
  all_goals omega

def lexC {α : Type} (f : α → α → Int) : List α → List α → Int
  | [], [] => 0
  | [], _ :: _ => -1
  | _ :: _, [] => 1
  | x :: xs, y :: ys => thenC (f x y) (lexC f xs ys)
def Rng (a : Int) : Prop := a = -1 ∨ a = 0 ∨ a = 1
theorem thenC_rng {a b : Int} (ha : Rng a) (hb : Rng b) : Rng (thenC a b) := by unfold thenC; split <;> assumption
theorem lexC_rng {α : Type} {f : α → α → Int} : ∀ (xs ys : List α), (∀ x ∈ xs, ∀ y, Rng (f x y)) → Rng (lexC f xs ys)
  | [], [], _ => .inr (.inl rfl)
  | [], _ :: _, _ => .inl rfl
  | _ :: _, [], _ => .inr (.inr rfl)
  | x :: xs, y :: ys, h => thenC_rng (h x (by simp) y) (lexC_rng xs ys fun x hx => h x (by simp [hx]))
theorem lexC_tri {α : Type} {f : α → α → Int} (hr : ∀ x y, Rng (f x y)) : ∀ (xs ys zs : List α), (∀ x ∈ xs, ∀ y z, Tri (f x y) (f y x) (f y z) (f x z)) → Tri (lexC f xs ys) (lexC f ys xs) (lexC f ys zs) (lexC f xs zs)
  | [], ys, zs, _ => by
    have e := lexC_rng (f := f) ys zs fun x _ y => hr x y
    unfold Rng at e
    cases ys <;> cases zs <;> (constructor <;> simp_all [lexC] <;> omega)
  | x :: xs, [], zs, _ => by
    have e := lexC_rng (f := f) (x :: xs) zs fun x _ y => hr x y
    unfold Rng at e
    cases zs <;> (constructor <;> simp_all [lexC] <;> omega)
  | x :: xs, y :: ys, [], h => by
    have e := lexC_rng (f := f) (x :: xs) (y :: ys) fun x _ y => hr x y
    unfold Rng at e
    have t := ((h x (by simp) y y).then (lexC_tri hr xs ys [] fun x hx => h x (by simp [hx]))).anti
    have t : lexC f (y :: ys) (x :: xs) = -lexC f (x :: xs) (y :: ys) := t
    have e1 : lexC f (y :: ys) [] = 1 := rfl
    have e2 : lexC f (x :: xs) [] = 1 := rfl
    rw [e1, e2]
    constructor <;> omega
  | x :: xs, y :: ys, z :: zs, h => (h x (by simp) y z).then (lexC_tri hr xs ys zs fun x hx => h x (by simp [hx]))

def byteC (a b : UInt8) : Int := numC (a.toNat : Int) (b.toNat : Int)
theorem numC_rng (x y : Int) : Rng (numC x y) := by unfold Rng numC; (repeat' split) <;> omega
theorem bytes_lex : ∀ x y : List UInt8, (if Op.bytesLess x y = true then (-1 : Int) else if (x == y) = true then 0 else 1) = lexC byteC x y
  | [], [] => by simp [Op.bytesLess, lexC]
  | [], _ :: _ => by simp [Op.bytesLess, lexC]
  | _ :: _, [] => by simp [Op.bytesLess, lexC]
  | a :: x, b :: y => by
    have ih := bytes_lex x y
    simp only [lexC]
    rw [← ih]
    unfold thenC byteC numC
    simp only [Op.bytesLess]
    by_cases h1 : a < b
    · have : a.toNat < b.toNat := h1
      simp [h1]
      rw [if_neg (by omega)]
      simp [this]
    · by_cases h2 : a = b
      · subst h2
        simp
      · have h3 : ¬ a.toNat < b.toNat := h1
        have h4 : a.toNat ≠ b.toNat := fun e => h2 (UInt8.toNat_inj.1 e)
        simp [h1, h2, h3]
        omega
theorem textC_lex (s t : ByteArray) : textC s t = lexC byteC s.toList t.toList := by unfold textC; exact bytes_lex _ _
theorem textC_tri (x y z : ByteArray) : Tri (textC x y) (textC y x) (textC y z) (textC x z) := by
  simp only [textC_lex]
  exact lexC_tri (fun a b => numC_rng _ _) _ _ _ fun a _ b c => numC_tri _ _ _
theorem textC_rng (x y : ByteArray) : Rng (textC x y) := by rw [textC_lex]; exact lexC_rng _ _ fun a _ b => numC_rng _ _
theorem firstC_cons (x : Int) (xs : List Int) : firstC (x :: xs) = thenC x (firstC xs) := by simp [firstC, thenC]
theorem firstC_one (x : Int) : firstC [x] = x := by simp [firstC]; omega
theorem refC_then (a b : Rf) : refC a b = thenC (numC a.kind b.kind) (thenC (numC a.idx b.idx) (textC a.nm b.nm)) := by
  unfold refC; rw [firstC_cons, firstC_cons, firstC_one]
theorem refC_tri (x y z : Rf) : Tri (refC x y) (refC y x) (refC y z) (refC x z) := by
  simp only [refC_then]
  exact (numC_tri _ _ _).then ((numC_tri _ _ _).then (textC_tri _ _ _))
theorem refC_rng (x y : Rf) : Rng (refC x y) := by rw [refC_then]; exact thenC_rng (numC_rng _ _) (thenC_rng (numC_rng _ _) (textC_rng _ _))
theorem refsC_lex : ∀ xs ys : List Rf, refsC xs ys = lexC refC xs ys
  | [], [] => rfl
  | [], _ :: _ => rfl
  | _ :: _, [] => rfl
  | x :: xs, y :: ys => by rw [refsC_cons, refsC_lex xs ys]; rfl
theorem refsC_tri (x y z : List Rf) : Tri (refsC x y) (refsC y x) (refsC y z) (refsC x z) := by
  simp only [refsC_lex]
  exact lexC_tri refC_rng _ _ _ fun a _ b c => refC_tri _ _ _
theorem refsC_rng (x y : List Rf) : Rng (refsC x y) := by rw [refsC_lex]; exact lexC_rng _ _ fun a _ b => refC_rng _ _
theorem nodeC_then (t u : Fm) : nodeC t u = thenC (numC t.op u.op) (thenC (textC t.nm u.nm) (thenC (refsC t.as u.as) (thenC (numC t.fr u.fr) (numC t.to u.to)))) := by
  unfold nodeC; rw [firstC_cons, firstC_cons, firstC_cons, firstC_cons, firstC_one]
theorem nodeC_tri (x y z : Fm) : Tri (nodeC x y) (nodeC y x) (nodeC y z) (nodeC x z) := by
  simp only [nodeC_then]
  exact (numC_tri _ _ _).then ((textC_tri _ _ _).then ((refsC_tri _ _ _).then ((numC_tri _ _ _).then (numC_tri _ _ _))))
theorem nodeC_rng (x y : Fm) : Rng (nodeC x y) := by
  rw [nodeC_then]
  exact thenC_rng (numC_rng _ _) (thenC_rng (textC_rng _ _) (thenC_rng (refsC_rng _ _) (thenC_rng (numC_rng _ _) (numC_rng _ _))))
theorem cmps_lex : ∀ xs ys : List Fm, cmps xs ys = lexC Fm.cmp xs ys
  | [], [] => by simp [cmps, lexC]
  | [], _ :: _ => by simp [cmps, lexC]
  | _ :: _, [] => by simp [cmps, lexC]
  | x :: xs, y :: ys => by rw [cmps_cons, cmps_lex xs ys]; rfl
theorem cmp_then (t u : Fm) : t.cmp u = thenC (nodeC t u) (lexC Fm.cmp t.ks u.ks) := by rw [Fm.cmp_eq, cmps_lex]; rfl
theorem cmp_rng (t : Fm) : ∀ u, Rng (t.cmp u) := by
  induction t using Fm.rec' with
  | _ t ih =>
    intro u
    rw [cmp_then]
    refine thenC_rng (nodeC_rng _ _) (lexC_rng _ _ fun x hx y => ?_)
    obtain ⟨i, hi⟩ := List.getElem?_of_mem hx
    exact ih i x hi y
theorem cmp_tri (t : Fm) : ∀ u v : Fm, Tri (t.cmp u) (u.cmp t) (u.cmp v) (t.cmp v) := by
  induction t using Fm.rec' with
  | _ t ih =>
    intro u v
    simp only [cmp_then]
    refine (nodeC_tri _ _ _).then (lexC_tri (fun a b => cmp_rng a b) _ _ _ fun x hx y z => ?_)
    obtain ⟨i, hi⟩ := List.getElem?_of_mem hx
    have := ih i x hi y z
    simpa only [cmp_then] using this
end Go.Abs
