/- FormulaCancels returns true for every formula, reference and two numbers, where what it reads is of the bulk that the statement names; the formula reads behind the call as before. -/
import Derived.Test.YtehkgiofchmpaaaDoorRd22
import Derived.Test.YtehkgiofchmpaaaDoorKc
import Derived.Test.YtehkgiofchmpaaaDoorL22g
import Derived.OpenShut
import Derived.JoinedCond
import Derived.Test.YtehkgiofchmpaaaDoorCards
import Derived.Test.YtehkgiofchmpaaaDoorTie
import Derived.Deep.DeepHandedRow
import Derived.LaidMore
import Derived.SevenTiedAt
namespace Go.Proofs.YtehkgiofchmpaaaDoor.formulaCancels
open Go Go.Abs Go.Abs.Asks Go.ChangeShapes Go.WideShapes Go.ChangeAt Go.RowKit
set_option linter.unusedVariables false
set_option linter.unusedSimpArgs false

theorem own : ownKnob Tryd.prog.godebug = none := by kernel_rfl
theorem laid : laidOutB Tryd.prog = true := by kernel_rfl

set_option maxRecDepth 100000 in
theorem contract (H : Type) (enc : TypeId × Value → H) (W : World) (base : Nat) (args : Array Value) (ds gs : List (DataW H)) (before : List MemPlace)
    (hval : ∀ (j : Nat) t v, Tryd.f10.params[j]? = some t → args[j]? = some v → Value.okWide Tryd.prog W .any base t v)
    (hW : DataW.Whole enc Tryd.prog Tryd.f10.params.toList Rows.formulaCancelsSpec.vars false W args.toList ds gs before) (hk : Rows.uptoSmall H (ds ++ gs) = true) :
    Calls Tryd.prog 10 args W fun e W' => ∃ v, e = .returned v ∧ Rows.formulaCancelsSpec.post enc Tryd.prog Tryd.f10 false true false false W args v W' := by
  have hW' := hW
  obtain ⟨p, q, hA0, hV, rfl, hfz, hnd⟩ := hW
  have hA : DataW.TrodAll enc Tryd.prog W 0 (fun _ => true) true Tryd.f10.params.toList args.toList ds p := hA0
  rw [Tryd.params10] at hA hval
  obtain ⟨v0, vs0, d0, ds0, p0, q0, hargs, rfl, rfl, h0, r0⟩ := trodAll_cons hA
  obtain ⟨v1, vs1, d1, ds1, p1, q1, e1, rfl, rfl, h1, r1⟩ := trodAll_cons r0
  obtain ⟨v2, vs2, d2, ds2, p2, q2, e2, rfl, rfl, h2, r2⟩ := trodAll_cons r1
  obtain ⟨v3, vs3, d3, ds3, p3, q3, e3, rfl, rfl, h3, r3⟩ := trodAll_cons r2
  obtain ⟨rfl, rfl, rfl⟩ := trodAll_nil r3
  subst e3
  subst e2
  subst e1
  obtain rfl : args = #[v0, v1, v2, v3] := by cases args; simp_all
  obtain ⟨rfl, rfl⟩ := trodVars_none hV
  have hb := of_decide_eq_true hk
  simp only [List.append_nil, Rows.uptoBulkAll] at hb
  obtain ⟨t0, hr0, hbk0⟩ := arg_fm (hval 0 25 v0 rfl rfl) h0
  obtain ⟨t1, hr1, hbk1⟩ := arg_ref (hval 1 40 v1 rfl rfl) h1
  obtain ⟨t2, hr2, hbk2⟩ := arg_int (hval 2 3 v2 rfl rfl) h2
  obtain ⟨t3, hr3, hbk3⟩ := arg_int (hval 3 3 v3 rfl rfl) h3
  have hc := law_calls (@cancelsLaw_ev plainAsks t0 t1 t2 t3 (by first | exact Fm.ok_of (by omega) | omega | assumption) (by first | exact Fm.ok_of (by omega) | omega | assumption)) (w := W) (vs := [v0, v1, v2, v3]) ⟨v0, [v1, v2, v3], rfl, hr0, v1, [v2, v3], rfl, hr1, v2, [v3], rfl, hr2, v3, [], rfl, hr3, rfl⟩
  refine hc.mono fun e W' ⟨he, hbelow⟩ => ⟨_, he, ?_⟩
  exact post_true laid Tryd.underlying4 (by kernel_rfl) rfl (by rw [Tryd.params10]; intro t ht; simp at ht; rcases ht with rfl | rfl | rfl <;> exact ⟨by kernel_rfl, of_decide_eq_true (by kernel_rfl)⟩) rfl rfl rfl hW' hbelow

set_option maxRecDepth 100000 in
theorem laid_met (os : Os) : laidMet Tryd.prog Rows.formulaCancelsUptoRow.laid (((World.doorLaid Tryd.prog 1000 os)).forCall (fun _ _ => 0) ⟨#[], #[.agg #[.int .i64 0, .string (ByteArray.mk #[]), .slice none 0 0, .int .i64 0, .int .i64 0, .slice none 0 0], .agg #[.int .i64 0, .int .i64 0, .string (ByteArray.mk #[])], .int .i64 0, .int .i64 0], []⟩).memory :=
  laidMet_of_run' 8 (by kernel_rfl) (by kernel_rfl)
set_option maxRecDepth 100000 in
theorem reads (os : Os) {H : Type} (enc : TypeId × Value → H) : ∃ places, DataW.whole enc Tryd.prog ((World.doorLaid Tryd.prog 1000 os).forCall (fun _ _ => 0) ⟨#[], #[.agg #[.int .i64 0, .string (ByteArray.mk #[]), .slice none 0 0, .int .i64 0, .int .i64 0, .slice none 0 0], .agg #[.int .i64 0, .int .i64 0, .string (ByteArray.mk #[])], .int .i64 0, .int .i64 0], []⟩).memory Tryd.f10.params.toList Rows.formulaCancelsSpec.vars false (#[.agg #[.int .i64 0, .string (ByteArray.mk #[]), .slice none 0 0, .int .i64 0, .int .i64 0, .slice none 0 0], .agg #[.int .i64 0, .int .i64 0, .string (ByteArray.mk #[])], .int .i64 0, .int .i64 0] : Array Value).toList 8 = some ([.agg [.lit (.int .i64 0), .lit (.string []), .nil, .lit (.int .i64 0), .lit (.int .i64 0), .nil], .agg [.lit (.int .i64 0), .lit (.int .i64 0), .lit (.string [])], .lit (.int .i64 0), .lit (.int .i64 0)], [], places) :=
  ⟨[], by kernel_rfl⟩
set_option maxRecDepth 100000 in
theorem lifted (os : Os) (started : os.Started) (H : Type) (enc : TypeId × Value → H) (F : Stop.Interp) :
    ReturnsInHanded {} Tryd.checked os 10 .any ((Rows.OpenSpec.upto Rows.formulaCancelsSpec).preRow enc Tryd.prog Tryd.f10 Rows.formulaCancelsUptoRow.domain false Rows.formulaCancelsUptoRow.laid) (((Rows.OpenSpec.upto Rows.formulaCancelsSpec).at F).post enc Tryd.prog Tryd.f10 false true false false) := by
  obtain ⟨places, hx⟩ := reads os enc
  refine returnsInHanded_of_row (C := Tryd.checked) (s := Rows.OpenSpec.upto Rows.formulaCancelsSpec) own started (by kernel_rfl) Tryd.func10
    (witness_row_at (enc := enc) (C := Tryd.checked) false (World.doorLaid Tryd.prog 1000 os) #[.agg #[.int .i64 0, .string (ByteArray.mk #[]), .slice none 0 0, .int .i64 0, .int .i64 0, .slice none 0 0], .agg #[.int .i64 0, .int .i64 0, .string (ByteArray.mk #[])], .int .i64 0, .int .i64 0] rfl (by kernel_rfl) (by kernel_rfl) (by kernel_rfl)
      (OpenSpec.preRow_of_cond 8 hx (by kernel_rfl) (fun k hk => by cases hk; kernel_rfl) (by kernel_rfl) (laid_met os))) ?_
  intro W base args ds gs before hval hW _ hcond _ hL _ _
  exact contract H enc W base args ds gs before hval hW (hcond _ rfl)

theorem over : Rows.formulaCancelsUptoRow.holds Tryd.pinned (Rows.OpenSpec.upto Rows.formulaCancelsSpec) :=
  OpenClaim.holds_of_cond 10 Tryd.f10 rfl rfl rfl rfl rfl rfl rfl ⟨rfl, rfl, rfl, rfl, rfl⟩ rfl rfl rfl rfl rfl (by kernel_rfl) Tryd.func10 (by kernel_rfl)
    (of_decide_eq_true (by kernel_rfl)) (by unfold Func.isWrapper; first | (rw [if_pos (by decide +kernel)]; kernel_rfl) | (rw [if_neg (by decide +kernel)]; exact ⟨rfl, rfl⟩))
    (fun os started H enc _ F => by rw [OpenClaim.pre_eq_preRow]; exact lifted os started H enc F)

theorem plain (f : FuncId) (fn : Func) (hf : Tryd.pinned.checked.prog.funcNamed "pentaglot/pentaglotlaw22.FormulaCancels" = some f) (hfn : Tryd.pinned.checked.prog.funcs[f]? = some fn) :
    true = Tryd.pinned.checked.prog.looks [] ∧ ∀ (j : Nat) t, fn.params[j]? = some t → Tryd.pinned.checked.prog.wantsStandIn t = false := by
  obtain rfl : f = 10 := Option.some.inj ((show Tryd.prog.funcNamed "pentaglot/pentaglotlaw22.FormulaCancels" = some 10 by kernel_rfl).symm.trans hf) |>.symm
  obtain rfl : fn = Tryd.f10 := (Option.some.inj (Tryd.func10.symm.trans hfn)).symm
  refine ⟨by kernel_rfl, fun j t ht => ?_⟩
  rw [Tryd.params10] at ht
  have hm : t ∈ [25, 40, 3] := by simpa using Array.mem_of_getElem? ht
  have hall : ([25, 40, 3].all fun u => !Tryd.prog.wantsStandIn u) = true := by kernel_rfl
  exact (show Tryd.prog.wantsStandIn t = false by simpa using List.all_eq_true.1 hall t hm)

theorem proved : Rows.FormulaCancelsUptoCardSaid :=
  Claim7.holds_tied_plain_at .later [] _ _ _ _ over (fun _ h => by cases h) (by kernel_rfl) (fun _ h => by cases h) formulaCancelsUpto_row_tie rfl ⟨rfl, rfl⟩ (by kernel_rfl) rfl plain (by kernel_rfl)
#print axioms proved
end Go.Proofs.YtehkgiofchmpaaaDoor.formulaCancels
