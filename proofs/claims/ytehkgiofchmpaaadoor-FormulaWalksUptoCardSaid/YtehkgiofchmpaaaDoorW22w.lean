/- Round 22 walked: the nodes in preorder, by the reference. -/
import Derived.Test.YtehkgiofchmpaaaDoorW22f
import Derived.Test.YtehkgiofchmpaaaDoorL22c
import Derived.Test.YtehkgiofchmpaaaDoorS22w
import Derived.Test.YtehkgiofchmpaaaDoorAbsKe
namespace Go.Proofs.YtehkgiofchmpaaaDoor
open Go Go.Abs Go.Abs.Asks
set_option linter.unusedVariables false
set_option linter.unusedSimpArgs false
set_option linter.unusedSectionVars false
variable [Asks]

theorem rwalk_ev (t : Fm) : t.ok → Ev pr 31 [t.d] (.ret [.own (.res 0) 6 (fms t.walk)]) := by
  induction t using Fm.rec' with
  | _ t ih =>
    intro ht
    have hk := ht.ks
    have hz := ht.1
    have hz2 := size_cnt t
    have hs := t.size_eq
    apply Ev.enter; intro c; (conv => arg 1; ext i; whnf)
    refine (Evx.loop hint31 3 (α := Nat) (fun a => [some (.ptr 1 1 0), some (.own (.tmp 1 3 0) 6 (fms (t :: fwalks (t.ks.take a)))), some (.d (.int .i64 (a : Int)))]) (fun a => [some (fmBox t)]) 1 [] (fun a => t.ks.length - a) (fun a => .ret [.own (.res 0) 6 (fms t.walk)]) ?_ 0 (fun _ => rfl) (fun _ => rfl) (fun _ => rfl) (by intro i; rw [List.take_zero]; simp only [fwalks, fms, Fm.cells_eq]; kernel_rfl)).to rfl
    intro a bx L ih'; (conv => arg 1; ext i; whnf)
    (refine Evx.bool (fun h => ?_) (fun h => ?_) <;> (try simp only [hold_eq, seq_dec, bne_iff_ne, beq_iff_eq, ne_eq, Bool.not_eq_true', Bool.not_eq_false', decide_eq_true_eq, decide_eq_false_iff_not, Decidable.not_not, refs_len, fms_len, bne_eq_false_iff_eq, beq_eq_false_iff_ne] at h) <;> (first | (exfalso; omega) | (conv => arg 1; ext i; whnf)))
    · obtain ⟨x, hx⟩ := get_some (l := t.ks) (i := a) (by omega)
      refine Evx.idx rfl (fms_get hx) ?_
      (conv => arg 1; ext i; whnf)
      refine Evx.call (ih a x hx (ht.kid hx)) ?_
      (conv => arg 1; ext i; whnf)
      have e1 := fwalks_take hx
      have e2 := walks_len (t.ks.take (a + 1))
      have e3 := fsizes_take_le t.ks (a + 1)
      rw [e1, List.length_append] at e2
      refine Evx.appd (m := ((fms (t :: fwalks (t.ks.take a))).length + (fms x.walk).length) * 89) rfl (by rw [fms_len, fms_len, List.length_cons]; omega) ?_
      (conv => arg 1; ext i; whnf)
      refine Evx.int (wrap_succ (by omega)) ?_
      (conv => arg 1; ext i; whnf)
      refine ih' (a + 1) _ (by omega) (fun i => ?_)
      rw [e1, ← List.cons_append, fms_app]
      kernel_rfl
    · refine Evx.pure ?_
      rw [List.take_of_length_le (by omega), t.walk_eq]
      rfl

theorem subs_ev (t : Fm) : Ev pr 32 [t.d] (.ret [.d (.fn (.func 55) [.at [.int .i64 t.op, .str t.nm, .sl 3 (refs t.as), .int .i64 t.fr, .int .i64 t.to, .sl 6 (fms t.ks)]])]) := by
  apply Ev.enter; intro c; (conv => arg 1; ext i; whnf)
  exact Evx.pure rfl

theorem shift0_ev (x : Fm) (hx : x.ok) (hr : x.rng) : Ev pr 23 [x.d, .int .i64 0, .int .i64 0] (.ret [.d x.d]) := by
  have := shift_ev x 0 0 hx
  rwa [← mapR_d, shift_none x 0 (by omega) hr] at this

/-- The range over a function in a body: parameters, assignment, body. -/
def rngOf : Code → Option (Array Nat × Code × Code)
  | .rangeFunc _ ps a b => some (ps, a, b)
  | .seq a b => match rngOf a with
    | some x => some x
    | none => rngOf b
  | .block _ c => rngOf c
  | .loop c => rngOf c
  | .scope c => rngOf c
  | .cond _ a b => match rngOf a with
    | some x => some x
    | none => rngOf b
  | _ => none
noncomputable def rngW : Array Nat × Code × Code := match Tryd.f11.body with
  | some c => (rngOf c).getD (#[], .skip, .skip)
  | none => (#[], .skip, .skip)
/-- The record of the loop in FormulaWalks. -/
noncomputable def recW (τ : Nat → Option AV) (e : Option Ex) : LoopRec := { fid := 11, dp := 1, nt := Tryd.f11.ntmps, hint := hH 11, tm := τ, params := rngW.1.toList, assign := rngW.2.1, body := rngW.2.2, pend := e }
def gW (T : Fm) (stop : Int) (n : Nat) (res : Bool) : List ((Nat × Nat) × Box) := [((1, 2), fmBox T), ((1, 3), ⟨[.d (.int .i64 stop)], false, (0, 0)⟩), ((1, 4), ⟨[.d (.bool res)], false, (0, 0)⟩), ((1, 5), ⟨[.own (.box 1 5 0) 6 (fms T.walk)], false, (0, 0)⟩), ((1, 6), ⟨[.d (.int .i64 n)], false, (0, 0)⟩),
  ((2, 2), ⟨[.yld 0], false, (0, 0)⟩), ((2, 3), ⟨[.fn (.func 56) [.ptr 2 2 0, .ptr 2 3 0]], false, (0, 0)⟩)]
theorem upd_of {τ : Nat → Option AV} {u : Nat} {a : Option AV} (h : τ u = a) : τ = updQ τ u a := by
  funext v
  unfold updQ
  cases hv : Nat.beq v u with
  | true => rw [Nat.eq_of_beq_eq_true hv, h]
  | false => rfl
def tmW (τ : Nat → Option AV) : Nat → Option AV := updQ (updQ (updQ (updQ τ 6 (some (.ptr 1 6 0))) 5 (some (.ptr 1 5 0))) 4 (some (.ptr 1 4 0))) 3 (some (.ptr 1 3 0))
theorem visitW {R : Type} [Same R] (T : Fm) (stop : Int) (τ : Nat → Option AV) (hT : T.walk.length ≤ 1000) (t : Fm) :
    t.ok → t.rng → ∀ (n c : Nat) (rest : List Fm) (K : Nat → Out → G → Option R) (r : R), T.walk.drop n = t.walk ++ rest →
    Evx (fun i => K i (.ret [.d (.bool true)]) ⟨tabB (gW T stop (n + t.size) false), 2, [recW (tmW τ) none]⟩) r →
    (∀ m, Evx (fun i => K i (.ret [.d (.bool false)]) ⟨tabB (gW T stop m true), 2, [recW (tmW τ) (some .ret)]⟩) r) →
    Evx (fun i => runQ (pr i) (i - c) R (.fn (.func 56)) [.d t.d, .ptr 2 2 0, .ptr 2 3 0] ⟨tabB (gW T stop n false), 2, [recW (tmW τ) none]⟩ (K i)) r := by
  induction t using Fm.rec' with
  | _ t ih =>
    intro ht hr n c rest K r hn hK hF
    have hkl := ht.ks
    have hr2 := hr
    rw [t.rng_eq] at hr2
    obtain ⟨hget, hlen⟩ := walk_get hn
    have hsz := t.size_eq
    apply Evx.enter; (conv => arg 1; ext i; whnf)
    refine Evx.call (shift0_ev t ht hr) ?_
    (conv => arg 1; ext i; whnf)
    apply Evx.enter; (conv => arg 1; ext i; whnf)
    (refine Evx.bool (fun h => ?_) (fun h => ?_) <;> (try simp only [hold_eq, seq_dec, bne_iff_ne, beq_iff_eq, ne_eq, Bool.not_eq_true', Bool.not_eq_false', decide_eq_true_eq, decide_eq_false_iff_not, Decidable.not_not, refs_len, fms_len, bne_eq_false_iff_eq, beq_eq_false_iff_ne] at h) <;> (first | (exfalso; omega) | (conv => arg 1; ext i; whnf)))
    refine Evx.idx rfl (fms_get hget) ?_
    (conv => arg 1; ext i; whnf)
    refine Evx.call (same_self_ev t ht) ?_
    (conv => arg 1; ext i; whnf)
    refine Evx.int (wrap_succ (n := n) (by omega)) ?_
    (conv => arg 1; ext i; whnf)
    (refine Evx.bool (fun h => ?_) (fun h => ?_) <;> (try simp only [hold_eq, seq_dec, bne_iff_ne, beq_iff_eq, ne_eq, Bool.not_eq_true', Bool.not_eq_false', decide_eq_true_eq, decide_eq_false_iff_not, Decidable.not_not, refs_len, fms_len, bne_eq_false_iff_eq, beq_eq_false_iff_ne] at h) <;> (first | (exfalso; omega) | (conv => arg 1; ext i; whnf)))
    · refine Evx.congrK (fun _ => G_eq ?_ rfl rfl) (hF (n + 1))
      refine tab_eq (by repeat (first | exact BSup.tab _ | exact BSup.g0 | apply BSup.dem | apply BSup.set | apply BSup.pop | apply BSup.hid | apply BSup.popG | apply BSup.un | apply BSup.lz)) (by kernel_rfl)
    · refine Evx.loopB hint56 4 (α := Nat) (fun a => [some (.ptr 2 3 0), some (.d (.sl 6 (fms t.ks))), some (.d (.int .i64 (fms t.ks).length)), some (.d (.int .i64 a))]) (fun a => []) (fun a => gW T stop (n + 1 + fsizes (t.ks.take a)) false) 3 [recW (tmW τ) none] (fun a => t.ks.length - a) (fun a => r) ?_ 0 (fun _ => rfl) (fun _ => rfl) (fun _ => rfl) (fun _ => by kernel_rfl) (fun _ => ?_)
      · intro a L ih'; (conv => arg 1; ext i; whnf)
        (refine Evx.bool (fun h => ?_) (fun h => ?_) <;> (try simp only [hold_eq, seq_dec, bne_iff_ne, beq_iff_eq, ne_eq, Bool.not_eq_true', Bool.not_eq_false', decide_eq_true_eq, decide_eq_false_iff_not, Decidable.not_not, refs_len, fms_len, bne_eq_false_iff_eq, beq_eq_false_iff_ne] at h) <;> (first | (exfalso; omega) | (conv => arg 1; ext i; whnf)))
        · obtain ⟨x, hx⟩ := get_some (l := t.ks) (i := a) (by omega)
          obtain ⟨rest', hw⟩ := walk_at hn hx
          refine Evx.idx rfl (fms_get hx) ?_
          (conv => arg 1; ext i; whnf)
          refine Evx.congrC (args' := [.d x.d, .ptr 2 2 0, .ptr 2 3 0]) (g' := ⟨tabB (gW T stop (n + 1 + fsizes (t.ks.take a)) false), 2, [recW (tmW τ) none]⟩) (fun _ => by kernel_rfl) (fun _ => G_eq ?_ rfl rfl) ?_
          · refine tab_eq (by repeat (first | exact BSup.tab _ | exact BSup.g0 | apply BSup.dem | apply BSup.set | apply BSup.pop | apply BSup.hid | apply BSup.popG | apply BSup.un | apply BSup.lz)) (by kernel_rfl)
          · refine ih a x hx (ht.kid hx) (rng_mem hr2.2 (List.mem_of_getElem? hx)) _ _ rest' _ _ hw ?_ (fun m => ?_)
            · (conv => arg 1; ext i; whnf)
              refine Evx.int (wrap_succ (by omega)) ?_
              (conv => arg 1; ext i; whnf)
              refine ih' (a + 1) _ (by omega) ?_ (fun i => ?_)
              · intro i; kernel_rfl
              · rw [fsizes_take hx, ← Nat.add_assoc]
                refine tab_eq (by repeat (first | exact BSup.tab _ | exact BSup.g0 | apply BSup.dem | apply BSup.set | apply BSup.pop | apply BSup.hid | apply BSup.popG | apply BSup.un | apply BSup.lz)) (by kernel_rfl)
            · (conv => arg 1; ext i; whnf)
              refine Evx.congrK (fun _ => G_eq ?_ rfl rfl) (hF m)
              refine tab_eq (by repeat (first | exact BSup.tab _ | exact BSup.g0 | apply BSup.dem | apply BSup.set | apply BSup.pop | apply BSup.hid | apply BSup.popG | apply BSup.un | apply BSup.lz)) (by kernel_rfl)
        · refine Evx.congrK (fun _ => G_eq ?_ rfl rfl) hK
          rw [show n + t.size = n + 1 + fsizes (t.ks.take a) by rw [List.take_of_length_le (by omega)]; omega]
          refine tab_eq (by repeat (first | exact BSup.tab _ | exact BSup.g0 | apply BSup.dem | apply BSup.set | apply BSup.pop | apply BSup.hid | apply BSup.popG | apply BSup.un | apply BSup.lz)) (by kernel_rfl)
      · refine tab_eq (by repeat (first | exact BSup.tab _ | exact BSup.g0 | apply BSup.dem | apply BSup.set | apply BSup.pop | apply BSup.hid | apply BSup.popG | apply BSup.un | apply BSup.lz)) (by kernel_rfl)

theorem recW_of {l : List LoopRec} {τ : Nat → Option AV} (h : l = [recW τ none]) (h3 : τ 3 = some (.ptr 1 3 0)) (h4 : τ 4 = some (.ptr 1 4 0)) (h5 : τ 5 = some (.ptr 1 5 0)) (h6 : τ 6 = some (.ptr 1 6 0)) : l = [recW (tmW τ) none] := by
  rw [h]
  unfold tmW
  rw [← upd_of h6, ← upd_of h5, ← upd_of h4, ← upd_of h3]
theorem rec_eq {a1 : FuncId} {a2 a3 : Nat} {a4 : Hint} {a5 : Nat → Option AV} {a6 : List Nat} {a7 a8 : Code} {a9 : Option Ex} {r : LoopRec} (h1 : a1 = r.fid) (h2 : a2 = r.dp) (h3 : a3 = r.nt) (h4 : a4 = r.hint) (h5 : a5 = r.tm) (h6 : a6 = r.params) (h7 : a7 = r.assign) (h8 : a8 = r.body) (h9 : a9 = r.pend) : LoopRec.mk a1 a2 a3 a4 a5 a6 a7 a8 a9 = r := by
  cases r; subst h1 h2 h3 h4 h5 h6 h7 h8 h9; rfl
theorem rec_one {a b : LoopRec} (h : a = b) : [a] = [b] := by rw [h]
def lW (t : Fm) (stop : Int) : List (Nat × AV) := [(0, .d t.d), (1, .d (.int .i64 stop)), (2, .ptr 1 2 0), (3, .ptr 1 3 0), (4, .ptr 1 4 0), (5, .ptr 1 5 0), (6, .ptr 1 6 0), (8, .d (.bool true)), (9, .d (.bool false)), (10, .d t.d), (11, .d (.sl 6 (fms t.walk))), (12, .d (.sl 6 (fms t.walk))), (13, .d (.int .i64 (fms t.walk).length)), (14, .d (.bool false)), (15, .d t.d),
  (16, .d (.fn (.func 55) [.at [.int .i64 t.op, .str t.nm, .sl 3 (refs t.as), .int .i64 t.fr, .int .i64 t.to, .sl 6 (fms t.ks)]]))]
set_option maxHeartbeats 2000000 in
/-- THE LAW of Subformulas. -/
theorem walksLaw_ev (t : Fm) (stop : Int) (ht : t.ok) (hr : t.rng) : Ev pr 11 [t.d, .int .i64 stop] (.ret [.d (.bool true)]) := by
  apply Ev.enter; intro c; (conv => arg 1; ext i; whnf)
  refine Evx.call awake22_ev ?_
  (conv => arg 1; ext i; whnf)
  refine Evx.call (rwalk_ev t ht) ?_
  (conv => arg 1; ext i; whnf)
  (refine Evx.bool (fun h => ?_) (fun h => ?_) <;> (try simp only [hold_eq, seq_dec, bne_iff_ne, beq_iff_eq, ne_eq, Bool.not_eq_true', Bool.not_eq_false', decide_eq_true_eq, decide_eq_false_iff_not, Decidable.not_not, refs_len, fms_len, bne_eq_false_iff_eq, beq_eq_false_iff_ne] at h) <;> (first | (exfalso; omega) | (conv => arg 1; ext i; whnf)))
  · exact Evx.of_eq (Evx.pure rfl) fun i => rfl
  refine Evx.call (subs_ev t) ?_
  (conv => arg 1; ext i; whnf)
  apply Evx.enter; (conv => arg 1; ext i; whnf)
  refine Evx.congrC (args' := [.d t.d, .ptr 2 2 0, .ptr 2 3 0]) (g' := ⟨tabB (gW t stop 0 false), 2, [recW (tmW (tabT (lW t stop))) none]⟩) (fun _ => by kernel_rfl) (fun _ => G_eq ?_ rfl (recW_of ?_ rfl rfl rfl rfl)) ?_
  · refine tab_eq (by repeat (first | exact BSup.tab _ | exact BSup.g0 | apply BSup.dem | apply BSup.set | apply BSup.pop | apply BSup.hid | apply BSup.popG | apply BSup.un | apply BSup.lz)) (by kernel_rfl)
  · conv => lhs; whnf
    refine rec_one ?_
    conv => lhs; whnf
    refine rec_eq ?_ ?_ ?_ ?_ ?_ ?_ ?_ ?_ ?_
    case refine_5 => exact tabT_eq (f := _) (by repeat (first | exact TSup.arg2 _ _ | apply TSup.upd | apply TSup.dem | apply TSup.map)) (by kernel_rfl)
    all_goals kernel_rfl
  · refine visitW t stop (tabT (lW t stop)) (by omega) t ht hr 0 _ [] _ _ (by simp) ?_ (fun m => ?_)
    · (conv => arg 1; ext i; whnf)
      refine Evx.of_eq (G := fun _ => some (Out.ret [AV.d (D.bool (hold (((0 + t.size : Nat) : Int) == ((fms t.walk).length : Int))))])) (Evx.pure ?_) fun i => rfl
      have e : ((0 + t.size : Nat) : Int) = ((fms t.walk).length : Int) := by rw [fms_len, walk_len, Nat.zero_add]
      rw [hold_eq, e]
      simp
    · (conv => arg 1; ext i; whnf)
      exact Evx.of_eq (G := fun _ => some (Out.ret [AV.d (D.bool true)])) (Evx.pure rfl) fun i => rfl
end Go.Proofs.YtehkgiofchmpaaaDoor
