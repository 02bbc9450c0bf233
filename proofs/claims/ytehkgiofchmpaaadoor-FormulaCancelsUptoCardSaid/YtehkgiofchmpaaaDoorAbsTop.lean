/- A call on data, by the interpreter, is a call of the program. -/
import Derived.Test.YtehkgiofchmpaaaDoorAbsYield
namespace Go.Abs
open Go
set_option linter.unusedVariables false
set_option linter.unusedSimpArgs false

section
variable {P : Program}

theorem pcall_sound {p : Pr} (hp : PrOk P p) {n : Nat} {f : FuncId} {ds : List D} {out : Out} (ho : pcall p n f ds = some out) {w : World} {L : Nat → Nat} {vs : List Value} (hL : ∀ b, w.heap.size ≤ b → L b = 0) (hv : RepVs w L ds vs) :
    FOk P f ∧ CallsIn Fence.wide 0 P f vs.toArray w (fun e w' => ∃ g' h', OutM g' w' h' out e ∧ OutD out ∧ GI g' w' h' ∧ Rel G0 (H0 L) w g' w' h') := by
  obtain ⟨h1, h2⟩ := run_sound hp n Out _ _ _ _ _ ho w (H0 L) vs (GI.start hL) (RepAs.of_d hv) (oks_d ds)
  refine ⟨h1, h2.mono ?_⟩
  rintro e w' ⟨out', g', h', hm, hG, hR, _, _, hpur⟩
  have : out' = out ∧ OutD out := by
    cases out' with
    | ret rs =>
      simp only [purify] at hpur
      split at hpur
      · rename_i hc; cases hpur; exact ⟨rfl, hc⟩
      · cases hpur
    | pan x => simp only [purify, Option.some.injEq] at hpur; subst hpur; exact ⟨rfl, trivial⟩
  obtain ⟨rfl, hd⟩ := this
  exact ⟨g', h', hm, hd, hG, hR⟩

/-- The limits of a world in which all cells lie still. -/
def LW (w : World) (b : Nat) : Nat := match w.heap[b]? with
  | some (.cells c _ _) => c.size
  | _ => 0

theorem LW_lim (w : World) : ∀ b, w.heap.size ≤ b → LW w b = 0 := by
  intro b hb
  unfold LW
  rw [Array.getElem?_eq_none hb]

/-- A row of the type table, by looking it up. -/
theorem TyFact.of {t : TypeId} {ti : TI} {d : TypeDesc} (h1 : (P.info? t).isSome = true) (h2 : ((P.info? t).get h1).size = ti.size) (h3 : ((P.info? t).get h1).bytes = ti.bytes) (h4 : ((P.info? t).get h1).zero.isSome = true)
    (h5 : (((P.info? t).get h1).zero.get h4).cells.toList = ti.zero.map D.zv) (plain : ti.zero.all D.plain = true) (len : ti.zero.length = ti.size) (one : ti.agg = false → ti.size = 1) (hd : P.underlying t = some d) (hr : d.isRow = ti.agg) (hk : KindFact P ti d)
    (h6 : ((P.info? t).get h1).zero.get h4 = zeroV ti) (hm : ti.mark.1 = 0 ∨ ti.mark.1 = t) (hi : ∀ k, ti.int = some k → P.underlying t = some (.int k)) : TyFact P t ti :=
  ⟨⟨_, _, (Option.some_get h1).symm, h2, h3, (Option.some_get h4).symm, h5⟩, plain, len, one, ⟨d, hd, hr, hk⟩, hm, hi, ⟨_, (Option.some_get h1).symm, by rw [← h6]; exact (Option.some_get h4).symm⟩⟩

/-- A law's function hands back a truth value, and turns nothing that lay. -/
theorem pcall_bool {p : Pr} (hp : PrOk P p) {n : Nat} {f : FuncId} {ds : List D} {b : Bool} (ho : pcall p n f ds = some (.ret [.d (.bool b)])) {w : World} {L : Nat → Nat} {vs : List Value} (hL : ∀ b, w.heap.size ≤ b → L b = 0) (hv : RepVs w L ds vs) :
    Calls P f vs.toArray w fun e w' => e = .returned (.bool b) ∧ RowKit.Below w.heap.size w w' := by
  refine callsIn_wide.1 ((pcall_sound hp ho hL hv).2.mono ?_)
  rintro e w' ⟨g', h', hm, _, hG, hR⟩
  refine ⟨?_, hR.os, hR.tape, hR.output, hR.size, fun b hb => (hR.keep b hb may_G0).1⟩
  cases e with
  | returned v =>
    obtain ⟨us, rfl, hr, _⟩ := hm
    simp only [RepAs, RepA, RepV] at hr
    obtain ⟨u, us', rfl, rfl, rfl⟩ := hr
    rfl
  | panicked c => exact hm.elim
  | outgrown => exact hm.elim
end
end Go.Abs
