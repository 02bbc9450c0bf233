/- Layer 41: the reference of Moves, walked. -/
import Derived.Test.YtfiefcfjedmhaaaDoorM41
namespace Go.Proofs.YtfiefcfjedmhaaaDoor
open Go Go.Abs Go.Abs.Asks
set_option linter.unusedVariables false
set_option linter.unusedSimpArgs false
set_option linter.unusedSectionVars false
variable [Asks]

theorem rMoves_ev (ts : List Tree) (hb : bulks ts < 2 ^ 21) : Ev pr 17 [.sl 3 (trees ts)] (.ret [.own (.res 0) 1 (lists (movesT ts (ts.length - 1)))]) := by
  have hl := bulks_len ts
  have ho : ∀ (i : Nat) t, ts[i]? = some t → t.bulk < 2 ^ 21 := by
    intro i t h; have := bulk_get h; omega
  apply Ev.enter; intro c; (conv => arg 1; ext i; whnf)
  refine (Evx.loop hint17 3 (α := { i : Nat // i ≤ ts.length }) (fun i => [some (.d (.sl 3 (trees ts))), some (.own (.tmp 1 3 0) 1 (lists (movesT ts i.1))), some (.d (.int .i64 i.1))]) (fun _ => []) 1 [] (fun i => ts.length - i.1) (fun i => .ret [.own (.res 0) 1 (lists (movesT ts (if i.1 ≤ ts.length - 1 then ts.length - 1 else i.1)))]) ?_ ⟨0, Nat.zero_le _⟩ (fun _ => rfl) (fun _ => rfl) (fun _ => rfl) (fun _ => by kernel_rfl)).to (by
    rw [if_pos (Nat.zero_le _)])
  rintro ⟨i, hi⟩ bx L ih
  have hlen := movesT_len ts i
  (conv => arg 1; ext i; whnf)
  refine Evx.int (wrap_succ (n := i) (by omega)) ?_
  (conv => arg 1; ext i; whnf)
  refine Evx.bool (fun h2 => ?_) (fun h2 => ?_)
  · have h2 := hold_true.1 h2
    simp only [trees_len, decide_eq_true_eq] at h2
    obtain ⟨a, ha⟩ := get_some (l := ts) (i := i) (by omega)
    obtain ⟨b, hbb⟩ := get_some (l := ts) (i := i + 1) (by omega)
    have hao := ho i a ha
    have hbo := ho (i + 1) b hbb
    rw [if_pos (by dsimp only; omega)]
    have hat : moveAt ts i = (mergeT a b).map fun m => ts.take i ++ [m] ++ ts.drop (i + 2) := by unfold moveAt; rw [ha, hbb]
    have hml := merge_len a b
    have hmb := merge_bulk a b
    (conv => arg 1; ext i; whnf)
    refine Evx.idx (m := i) rfl (trees_get ha) ?_
    (conv => arg 1; ext i; whnf)
    refine Evx.int (wrap_succ (n := i) (by omega)) ?_
    (conv => arg 1; ext i; whnf)
    refine Evx.idx (m := i + 1) rfl (trees_get hbb) ?_
    (conv => arg 1; ext i; whnf)
    refine Evx.call (rMerge_ev a b (by omega) (by omega)) ?_
    generalize mergeT a b = ms at *
    (conv => arg 1; ext i; whnf)
    refine Evx.loop hint17 6 (α := { j : Nat // j ≤ ms.length }) (fun j => [some (.d (.sl 3 (trees ts))), some (.own (.tmp 1 3 0) 1 (lists (movesT ts i ++ (ms.take j.1).map fun m => ts.take i ++ [m] ++ ts.drop (i + 2)))), some (.d (.int .i64 i)), some (.d (.sl 3 (trees ms))), some (.d (.int .i64 (trees ms).length)), some (.d (.int .i64 j.1))]) (fun _ => []) 1 [] (fun j => ms.length - j.1) (fun j => _) ?_ ⟨0, Nat.zero_le _⟩ (fun _ => rfl) (fun _ => rfl) (fun _ => rfl) (fun _ => by rw [List.take_zero, List.map_nil, List.append_nil]; kernel_rfl)
    rintro ⟨j, hj⟩ bx2 L2 ih2
    (conv => arg 1; ext i; whnf)
    refine Evx.bool (fun h3 => ?_) (fun h3 => ?_)
    · have h3 := hold_true.1 h3
      simp only [trees_len, decide_eq_true_eq] at h3
      obtain ⟨m, hm⟩ := get_some (l := ms) (i := j) (by omega)
      (conv => arg 1; ext i; whnf)
      refine Evx.idx (m := j) rfl (trees_get hm) ?_
      (conv => arg 1; ext i; whnf)
      refine Evx.mustP (by simp only [Option.getD, trees_len]; omega) ?_
      (conv => arg 1; ext i; whnf)
      refine Evx.appd (m := (min i ts.length) * 65) (by simp [Option.getD, trees_len]; rfl) (by have := Nat.min_le_right i ts.length; omega) ?_
      (conv => arg 1; ext i; whnf)
      refine Evx.appd (m := (min i ts.length + 1) * 65) (by simp [Option.getD, trees_len]; rfl) (by have := Nat.min_le_right i ts.length; omega) ?_
      (conv => arg 1; ext i; whnf)
      refine Evx.int (n' := ((i + 2 : Nat) : Int)) (by rw [wrap_small] <;> (try dsimp only) <;> omega) ?_
      (conv => arg 1; ext i; whnf)
      refine Evx.mustP (by simp only [Option.getD, trees_len]; omega) ?_
      (conv => arg 1; ext i; whnf)
      refine Evx.appd (m := (min i ts.length + 1 + (ts.length - (i + 2))) * 65) (by simp [Option.getD, trees_len]; rw [show ((i : Int) + 2).toNat = i + 2 by omega]; rfl) (by have := Nat.min_le_right i ts.length; omega) ?_
      (conv => arg 1; ext i; whnf)
      refine Evx.appd (m := ((lists (movesT ts i ++ (ms.take j).map fun m => ts.take i ++ [m] ++ ts.drop (i + 2))).length + 1) * 25) rfl (by rw [lists_len, List.length_append, List.length_map, List.length_take]; omega) ?_
      (conv => arg 1; ext i; whnf)
      refine Evx.int (wrap_succ (n := j) (by omega)) ?_
      (conv => arg 1; ext i; whnf)
      have hq : lists (movesT ts i ++ (ms.take (j + 1)).map fun m => ts.take i ++ [m] ++ ts.drop (i + 2)) = lists (movesT ts i ++ (ms.take j).map fun m => ts.take i ++ [m] ++ ts.drop (i + 2)) ++ [[.sl 3 ((trees ts).take i ++ [[.str m.fn, .sl 1 (ints m.vs), .sl 3 (trees m.ks)]] ++ ((trees ts).take (Int.toNat ((trees ts).length : Int))).drop (i + 2))]] := by
        rw [take_succ' hm, List.map_append, ← List.append_assoc, lists_app _ (List.map _ [m]), take_all]
        show _ ++ [[D.sl 3 (trees (ts.take i ++ [m] ++ ts.drop (i + 2)))]] = _
        rw [trees_app, trees_app, trees_take, trees_drop, trees_cons]; rfl
      refine ih2 ⟨j + 1, by omega⟩ _ (by dsimp only; omega) ?_
      intro q
      dsimp only
      rw [hq]
      kernel_rfl
    · have h3 := hold_false.1 h3
      simp only [trees_len, decide_eq_false_iff_not] at h3
      (conv => arg 1; ext i; whnf)
      refine Evx.int (wrap_succ (n := i) (by omega)) ?_
      (conv => arg 1; ext i; whnf)
      refine (ih ⟨i + 1, by omega⟩ _ (by dsimp only; omega) ?_).to ?_
      · intro q
        rw [show movesT ts (i + 1) = movesT ts i ++ (ms.take j).map fun m => ts.take i ++ [m] ++ ts.drop (i + 2) by
          simp only [movesT, hat]; rw [List.take_of_length_le (l := ms) (by omega)]]
        kernel_rfl
      · dsimp only
        rw [if_pos (by omega)]
  · have h2 := hold_false.1 h2
    simp only [trees_len, decide_eq_false_iff_not] at h2
    (conv => arg 1; ext i; whnf)
    refine Evx.pure ?_
    have : (if i ≤ ts.length - 1 then ts.length - 1 else i) = i := by split <;> omega
    dsimp only
    rw [this]
    rfl
end Go.Proofs.YtfiefcfjedmhaaaDoor
