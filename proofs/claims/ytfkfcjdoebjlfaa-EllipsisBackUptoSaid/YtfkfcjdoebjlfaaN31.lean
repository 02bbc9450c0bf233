/- The nodes of a tree, one by one: abstract.Nodes walked. -/
import Derived.Test.YtfkfcjdoebjlfaaW39
import Derived.Test.YtfkfcjdoebjlfaaAbsG
namespace Go.Proofs.Ytfkfcjdoebjlfaa
open Go Go.Abs Go.Abs.Asks
set_option linter.unusedVariables false
set_option linter.unusedSimpArgs false
set_option linter.unusedSectionVars false

/-- The range over a function in a body: parameters, assignment, body. -/
def rngOf : Code → Option (Array Nat × Code × Code)
  | .rangeFunc _ ps a b => some (ps, a, b)
  | .seq a b => match rngOf a with
    | some x => some x
    | none => rngOf b
  | .block _ c => rngOf c
  | .loop c => rngOf c
  | .scope c => rngOf c
  | .cond _ a b => match rngOf a with
    | some x => some x
    | none => rngOf b
  | _ => none

noncomputable def rngE : Array Nat × Code × Code := match Try.f19.body with
  | some c => (rngOf c).getD (#[], .skip, .skip)
  | none => (#[], .skip, .skip)
/-- The record of the loop in Elided. -/
noncomputable def recE (T : Tree) : LoopRec := { fid := 19, dp := 1, nt := Try.f19.ntmps, hint := hH 19, tm := tabT [(0, .d T.d), (1, .ptr 1 1 0), (2, .d (.int .i64 0)), (3, .ptr 1 3 0), (6, .d T.d), (7, .d (.fn (.func 52) [.at [.str T.fn, .sl 1 (ints T.vs), .sl 3 (trees T.ks)]]))], params := rngE.1.toList, assign := rngE.2.1, body := rngE.2.2, pend := none }

def gE (T : Tree) (n : Nat) : List ((Nat × Nat) × Box) := [((1, 1), treeBox T), ((1, 3), ⟨[.d (.int .i64 n)], false⟩), ((2, 2), ⟨[.yld 0], false⟩), ((2, 3), ⟨[.fn (.func 53) [.ptr 2 2 0, .ptr 2 3 0]], false⟩)]
variable [Asks]

theorem nodes_ev (t : Tree) : Ev pr 43 [t.d] (.ret [.d (.fn (.func 52) [.at [.str t.fn, .sl 1 (ints t.vs), .sl 3 (trees t.ks)]])]) := by
  apply Ev.enter; intro c; (conv => arg 1; ext i; whnf)
  exact Evx.pure rfl

theorem visitE {R : Type} (T : Tree) (t : Tree) : t.ok → ∀ (path : List Int) (n c : Nat) (K : Nat → Out → G → Option R) (r : R), path.length + t.bulk < 2 ^ 31 → n + t.size < 2 ^ 40 →
    Evx (fun i => K i (.ret [.d (.bool true)]) ⟨tabB (gE T (n + t.also)), 2, [recE T]⟩) r →
    Evx (fun i => runQ (pr i) (i - c) R (.fn (.func 53)) [.d (.sl 1 (ints path)), .d t.d, .ptr 2 2 0, .ptr 2 3 0] ⟨tabB (gE T n), 2, [recE T]⟩ (K i)) r := by
  induction t using Tree.rec' with
  | _ t ih =>
    intro ht path n c K r hp hn hK
    have hkl := ht.ks
    apply Evx.enter; (conv => arg 1; ext i; whnf)
    refine Evx.callK (kClone_sl (by rw [ints_len]; omega)) ?_
    (conv => arg 1; ext i; whnf)
    refine Evx.call (aclone_ev t ht) ?_
    (conv => arg 1; ext i; whnf)
    apply Evx.enter; (conv => arg 1; ext i; whnf)
    have main : ∀ (m : Nat), m = n + (if t.fn = sAlso then 1 else 0) → m + alsos t.ks < 2 ^ 40 := by
      intro m hm
      have := also_eq t
      have := also_size t
      omega
    refine Evx.bool (fun h1 => ?_) (fun h1 => ?_)
    · have e1 : t.fn = sAlso := seq_iff.1 h1
      have hm := main (n + 1) (by rw [if_pos e1])
      rw [also_eq t, if_pos e1] at hK
      (conv => arg 1; ext i; whnf)
      refine Evx.int (wrap_succ (by omega)) ?_
      (conv => arg 1; ext i; whnf)
      refine (Evx.loopB hint53 4 (α := Nat) (fun a => [some (.d (.sl 1 (ints path))), some (.ptr 2 3 0), some (.d (.sl 3 (trees t.ks))), some (.d (.int .i64 (trees t.ks).length)), some (.d (.int .i64 a))]) (fun a => []) (fun a => gE T ((n + 1) + alsos (t.ks.take a))) 3 [recE T] (fun a => t.ks.length - a) (fun a => r) ?_ 0 (fun _ => rfl) (fun _ => rfl) (fun _ => rfl) (fun _ => by kernel_rfl) (fun _ => ?_))
      · intro a L ih'; (conv => arg 1; ext i; whnf)
        refine Evx.bool (fun h2 => ?_) (fun h2 => ?_)
        · have h2 := hold_true.1 h2
          simp only [trees_len, decide_eq_true_eq] at h2
          obtain ⟨x, hx⟩ := get_some (l := t.ks) (i := a) (by omega)
          have hb := Tree.kid_lt hx
          (conv => arg 1; ext i; whnf)
          refine Evx.idx rfl (trees_get hx) ?_
          (conv => arg 1; ext i; whnf)
          refine Evx.mustP ⟨Int.le_refl _, Int.natCast_nonneg _, rfl, Int.le_refl _⟩ ?_
          (conv => arg 1; ext i; whnf)
          refine Evx.appd rfl (m := (((ints path).take (Int.toNat ((ints path).length : Int))).length + 1) * 9) (by rw [take_all, ints_len]; omega) ?_
          (conv => arg 1; ext i; whnf)
          have e : List.drop (Int.toNat 0) (List.take (Int.toNat ((ints path).length : Int)) (ints path)) ++ [[D.int .i64 a]] = ints (path ++ [(a : Int)]) := by
            rw [ints_app, take_all]; rfl
          refine Evx.congrC (args' := [.d (.sl 1 (ints (path ++ [(a : Int)]))), .d x.d, .ptr 2 2 0, .ptr 2 3 0]) (g' := ⟨tabB (gE T ((n + 1) + alsos (t.ks.take a))), 2, [recE T]⟩) (fun _ => by rw [← e]; kernel_rfl) (fun _ => G_eq ?_ rfl rfl) ?_
          · refine tab_eq (by repeat (first | exact BSup.tab _ | exact BSup.g0 | apply BSup.dem | apply BSup.set | apply BSup.pop | apply BSup.hid | apply BSup.popG | apply BSup.un | apply BSup.lz)) (by kernel_rfl)
          · have hat := alsos_take hx
            have hle := alsos_take_le t.ks (a + 1)
            have hst := sizes_take hx
            have hsle := sizes_take_le t.ks (a + 1)
            have has := alsos_sizes (t.ks.take a)
            have hsz := t.size_eq
            have hxs := size_bulk x
            refine ih a x hx (ht.kid hx) _ _ _ _ _ (by rw [List.length_append, List.length_singleton]; omega) (by omega) ?_
            (conv => arg 1; ext i; whnf)
            refine Evx.int (wrap_succ (by omega)) ?_
            (conv => arg 1; ext i; whnf)
            refine ih' (a + 1) _ (by omega) ?_ (fun i => ?_)
            · intro i; kernel_rfl
            · rw [hat, ← Nat.add_assoc]
              refine tab_eq (by repeat (first | exact BSup.tab _ | exact BSup.g0 | apply BSup.dem | apply BSup.set | apply BSup.pop | apply BSup.hid | apply BSup.popG | apply BSup.un | apply BSup.lz)) (by kernel_rfl)
        · have h2 := hold_false.1 h2
          simp only [trees_len, decide_eq_false_iff_not] at h2
          (conv => arg 1; ext i; whnf)
          refine Evx.congrK (fun _ => G_eq ?_ rfl rfl) hK
          rw [show n + (1 + alsos t.ks) = (n + 1) + alsos (t.ks.take a) by rw [List.take_of_length_le (by omega)]; omega]
          refine tab_eq (by repeat (first | exact BSup.tab _ | exact BSup.g0 | apply BSup.dem | apply BSup.set | apply BSup.pop | apply BSup.hid | apply BSup.popG | apply BSup.un | apply BSup.lz)) (by kernel_rfl)
      · refine tab_eq (by repeat (first | exact BSup.tab _ | exact BSup.g0 | apply BSup.dem | apply BSup.set | apply BSup.pop | apply BSup.hid | apply BSup.popG | apply BSup.un | apply BSup.lz)) (by kernel_rfl)
    · have e1 : t.fn ≠ sAlso := seq_ne.1 h1
      have hm := main n (by rw [if_neg e1]; rfl)
      rw [also_eq t, if_neg e1] at hK
      (conv => arg 1; ext i; whnf)
      refine (Evx.loopB hint53 4 (α := Nat) (fun a => [some (.d (.sl 1 (ints path))), some (.ptr 2 3 0), some (.d (.sl 3 (trees t.ks))), some (.d (.int .i64 (trees t.ks).length)), some (.d (.int .i64 a))]) (fun a => []) (fun a => gE T (n + alsos (t.ks.take a))) 3 [recE T] (fun a => t.ks.length - a) (fun a => r) ?_ 0 (fun _ => rfl) (fun _ => rfl) (fun _ => rfl) (fun _ => by kernel_rfl) (fun _ => ?_))
      · intro a L ih'; (conv => arg 1; ext i; whnf)
        refine Evx.bool (fun h2 => ?_) (fun h2 => ?_)
        · have h2 := hold_true.1 h2
          simp only [trees_len, decide_eq_true_eq] at h2
          obtain ⟨x, hx⟩ := get_some (l := t.ks) (i := a) (by omega)
          have hb := Tree.kid_lt hx
          (conv => arg 1; ext i; whnf)
          refine Evx.idx rfl (trees_get hx) ?_
          (conv => arg 1; ext i; whnf)
          refine Evx.mustP ⟨Int.le_refl _, Int.natCast_nonneg _, rfl, Int.le_refl _⟩ ?_
          (conv => arg 1; ext i; whnf)
          refine Evx.appd rfl (m := (((ints path).take (Int.toNat ((ints path).length : Int))).length + 1) * 9) (by rw [take_all, ints_len]; omega) ?_
          (conv => arg 1; ext i; whnf)
          have e : List.drop (Int.toNat 0) (List.take (Int.toNat ((ints path).length : Int)) (ints path)) ++ [[D.int .i64 a]] = ints (path ++ [(a : Int)]) := by
            rw [ints_app, take_all]; rfl
          refine Evx.congrC (args' := [.d (.sl 1 (ints (path ++ [(a : Int)]))), .d x.d, .ptr 2 2 0, .ptr 2 3 0]) (g' := ⟨tabB (gE T (n + alsos (t.ks.take a))), 2, [recE T]⟩) (fun _ => by rw [← e]; kernel_rfl) (fun _ => G_eq ?_ rfl rfl) ?_
          · refine tab_eq (by repeat (first | exact BSup.tab _ | exact BSup.g0 | apply BSup.dem | apply BSup.set | apply BSup.pop | apply BSup.hid | apply BSup.popG | apply BSup.un | apply BSup.lz)) (by kernel_rfl)
          · have hat := alsos_take hx
            have hle := alsos_take_le t.ks (a + 1)
            have hst := sizes_take hx
            have hsle := sizes_take_le t.ks (a + 1)
            have has := alsos_sizes (t.ks.take a)
            have hsz := t.size_eq
            have hxs := size_bulk x
            refine ih a x hx (ht.kid hx) _ _ _ _ _ (by rw [List.length_append, List.length_singleton]; omega) (by omega) ?_
            (conv => arg 1; ext i; whnf)
            refine Evx.int (wrap_succ (by omega)) ?_
            (conv => arg 1; ext i; whnf)
            refine ih' (a + 1) _ (by omega) ?_ (fun i => ?_)
            · intro i; kernel_rfl
            · rw [hat, ← Nat.add_assoc]
              refine tab_eq (by repeat (first | exact BSup.tab _ | exact BSup.g0 | apply BSup.dem | apply BSup.set | apply BSup.pop | apply BSup.hid | apply BSup.popG | apply BSup.un | apply BSup.lz)) (by kernel_rfl)
        · have h2 := hold_false.1 h2
          simp only [trees_len, decide_eq_false_iff_not] at h2
          (conv => arg 1; ext i; whnf)
          refine Evx.congrK (fun _ => G_eq ?_ rfl rfl) hK
          rw [show n + (0 + alsos t.ks) = n + alsos (t.ks.take a) by rw [List.take_of_length_le (by omega)]; omega]
          refine tab_eq (by repeat (first | exact BSup.tab _ | exact BSup.g0 | apply BSup.dem | apply BSup.set | apply BSup.pop | apply BSup.hid | apply BSup.popG | apply BSup.un | apply BSup.lz)) (by kernel_rfl)
      · refine tab_eq (by repeat (first | exact BSup.tab _ | exact BSup.g0 | apply BSup.dem | apply BSup.set | apply BSup.pop | apply BSup.hid | apply BSup.popG | apply BSup.un | apply BSup.lz)) (by kernel_rfl)

theorem elided_ev (t : Tree) (ht : t.ok) : Ev pr 19 [t.d] (.ret [.d (.int .i64 t.also)]) := by
  have hb := size_bulk t
  have hts : t.bulk < 2 ^ 30 := ht
  apply Ev.enter; intro c; (conv => arg 1; ext i; whnf)
  refine Evx.call (nodes_ev t) ?_
  (conv => arg 1; ext i; whnf)
  apply Evx.enter; (conv => arg 1; ext i; whnf)
  refine Evx.congrC (args' := [.d (.sl 1 (ints [])), .d t.d, .ptr 2 2 0, .ptr 2 3 0]) (g' := ⟨tabB (gE t 0), 2, [recE t]⟩) (fun _ => by kernel_rfl) (fun _ => G_eq ?_ rfl ?_) ?_
  · refine tab_eq (by repeat (first | exact BSup.tab _ | exact BSup.g0 | apply BSup.dem | apply BSup.set | apply BSup.pop | apply BSup.hid | apply BSup.popG | apply BSup.un | apply BSup.lz)) (by kernel_rfl)
  · refine congrArg (fun τ => [({ recE t with tm := τ } : LoopRec)]) (tabT_eq (f := _) (by repeat (first | exact TSup.arg1 _ | apply TSup.upd | apply TSup.dem | apply TSup.map)) (by kernel_rfl))
  · refine visitE t t ht [] 0 _ _ _ (by simp; omega) (by omega) ?_
    (conv => arg 1; ext i; whnf)
    refine Evx.pure ?_
    simp
end Go.Proofs.Ytfkfcjdoebjlfaa
