/- Layer 41: lists in which two neighbours are merged, and their reference, walked. -/
import Derived.Test.YtfiefcfjedmhaaaDoorW41
namespace Go.Proofs.YtfiefcfjedmhaaaDoor
open Go Go.Abs Go.Abs.Asks
set_option linter.unusedVariables false
set_option linter.unusedSimpArgs false
set_option linter.unusedSectionVars false
variable [Asks]

def few41 (ts : List Tree) : Bool := ts.all (fun t => decide (t.size ≤ 40)) && decide ((ts.length : Int) ≤ 8)
theorem few41_ev (ts : List Tree) (hl : ts.length < 2 ^ 40) (ho : ∀ (i : Nat) t, ts[i]? = some t → t.ok) : Ev pr 12 [.sl 3 (trees ts)] (.ret [.d (.bool (few41 ts))]) := by
  apply Ev.enter; intro c; (conv => arg 1; ext i; whnf)
  refine (Evx.loop hint12 2 (α := Nat) (fun a => [some (.d (.sl 3 (trees ts))), some (.d (.int .i64 a))]) (fun a => []) 1 [] (fun a => ts.length - a) (fun a => .ret [.d (.bool ((ts.drop a).all (fun t => decide (t.size ≤ 40)) && decide ((ts.length : Int) ≤ 8)))]) ?_ 0 (fun _ => rfl) (fun _ => rfl) (fun _ => rfl) (fun _ => by kernel_rfl)).to (by simp [few41])
  intro a bx L ih; (conv => arg 1; ext i; whnf)
  refine Evx.bool (fun h2 => ?_) (fun h2 => ?_)
  · have h2 := hold_true.1 h2
    simp only [trees_len, decide_eq_true_eq] at h2
    obtain ⟨x, hx⟩ := get_some (l := ts) (i := a) (by omega)
    rw [drop_cons hx]
    (conv => arg 1; ext i; whnf)
    refine Evx.idx rfl (trees_get hx) ?_
    (conv => arg 1; ext i; whnf)
    refine Evx.call (rSize_ev x (ho a x hx)) ?_
    (conv => arg 1; ext i; whnf)
    refine Evx.bool (fun h3 => ?_) (fun h3 => ?_)
    · have h3 := hold_true.1 h3
      simp only [gt_iff_lt, decide_eq_true_eq] at h3
      (conv => arg 1; ext i; whnf)
      refine Evx.pure ?_
      rw [List.all_cons, decide_eq_false (by omega)]; rfl
    · have h3 := hold_false.1 h3
      simp only [gt_iff_lt, decide_eq_false_iff_not] at h3
      (conv => arg 1; ext i; whnf)
      refine Evx.int (wrap_succ (by omega)) ?_
      (conv => arg 1; ext i; whnf)
      refine (ih (a + 1) _ (by omega) (fun _ => by kernel_rfl)).to ?_
      rw [List.all_cons, decide_eq_true (p := x.size ≤ 40) (by omega), Bool.true_and]
  · have h2 := hold_false.1 h2
    simp only [trees_len, decide_eq_false_iff_not] at h2
    (conv => arg 1; ext i; whnf)
    refine Evx.pure ?_
    rw [List.drop_eq_nil_of_le (by omega), hold_eq, trees_len]; rfl

theorem moves_ev (ts : List Tree) (hb : bulks ts < 2 ^ 21) : Ev pr 16 [.sl 3 (trees ts)] (.ret [.own (.res 0) 1 (lists (movesT ts (ts.length - 1)))]) := by
  have hl := bulks_len ts
  have ho : ∀ (i : Nat) t, ts[i]? = some t → t.bulk < 2 ^ 21 := by
    intro i t h; have := bulk_get h; omega
  apply Ev.enter; intro c; (conv => arg 1; ext i; whnf)
  refine (Evx.loop hint16 3 (α := { i : Nat // i ≤ ts.length }) (fun i => [some (.d (.sl 3 (trees ts))), some (.own (.tmp 1 3 0) 1 (lists (movesT ts i.1))), some (.d (.int .i64 i.1))]) (fun _ => []) 1 [] (fun i => ts.length - i.1) (fun i => .ret [.own (.res 0) 1 (lists (movesT ts (if i.1 ≤ ts.length - 1 then ts.length - 1 else i.1)))]) ?_ ⟨0, Nat.zero_le _⟩ (fun _ => rfl) (fun _ => rfl) (fun _ => rfl) (fun _ => by kernel_rfl)).to (by
    rw [if_pos (Nat.zero_le _)])
  rintro ⟨i, hi⟩ bx L ih
  have hlen := movesT_len ts i
  (conv => arg 1; ext i; whnf)
  refine Evx.int (wrap_succ (n := i) (by omega)) ?_
  (conv => arg 1; ext i; whnf)
  refine Evx.bool (fun h2 => ?_) (fun h2 => ?_)
  · have h2 := hold_true.1 h2
    simp only [trees_len, decide_eq_true_eq] at h2
    obtain ⟨a, ha⟩ := get_some (l := ts) (i := i) (by omega)
    obtain ⟨b, hbb⟩ := get_some (l := ts) (i := i + 1) (by omega)
    have hao := ho i a ha
    have hbo := ho (i + 1) b hbb
    rw [if_pos (by dsimp only; omega)]
    have hat : moveAt ts i = (mergeT a b).map fun m => ts.take i ++ [m] ++ ts.drop (i + 2) := by unfold moveAt; rw [ha, hbb]
    have hml := merge_len a b
    have hmb := merge_bulk a b
    have em := merge_ev a b (by omega) (by omega)
    (conv => arg 1; ext i; whnf)
    refine Evx.idx (m := i) rfl (trees_get ha) ?_
    (conv => arg 1; ext i; whnf)
    refine Evx.int (wrap_succ (n := i) (by omega)) ?_
    (conv => arg 1; ext i; whnf)
    refine Evx.idx (m := i + 1) rfl (trees_get hbb) ?_
    (conv => arg 1; ext i; whnf)
    rcases mergeV_cases a b with hv | ⟨hv, hms⟩
    · rw [hv] at em
      refine Evx.call em ?_
      generalize mergeT a b = ms at *
      (conv => arg 1; ext i; whnf)
      refine Evx.loop hint16 6 (α := { j : Nat // j ≤ ms.length }) (fun j => [some (.d (.sl 3 (trees ts))), some (.own (.tmp 1 3 0) 1 (lists (movesT ts i ++ (ms.take j.1).map fun m => ts.take i ++ [m] ++ ts.drop (i + 2)))), some (.d (.int .i64 i)), some (.d (.sl 3 (trees ms))), some (.d (.int .i64 (trees ms).length)), some (.d (.int .i64 j.1))]) (fun _ => []) 1 [] (fun j => ms.length - j.1) (fun j => _) ?_ ⟨0, Nat.zero_le _⟩ (fun _ => rfl) (fun _ => rfl) (fun _ => rfl) (fun _ => by rw [List.take_zero, List.map_nil, List.append_nil]; kernel_rfl)
      rintro ⟨j, hj⟩ bx2 L2 ih2
      (conv => arg 1; ext i; whnf)
      refine Evx.bool (fun h3 => ?_) (fun h3 => ?_)
      · have h3 := hold_true.1 h3
        simp only [trees_len, decide_eq_true_eq] at h3
        obtain ⟨m, hm⟩ := get_some (l := ms) (i := j) (by omega)
        have hmo : m.ok := by
          have := hmb m (List.mem_of_getElem? hm)
          unfold Tree.ok; omega
        (conv => arg 1; ext i; whnf)
        refine Evx.idx (m := j) rfl (trees_get hm) ?_
        (conv => arg 1; ext i; whnf)
        refine Evx.loop hint16 10 (α := { k : Nat // k ≤ ts.length }) (fun k => [some (.d (.sl 3 (trees ts))), some (.own (.tmp 1 3 0) 1 (lists (movesT ts i ++ (ms.take j).map fun m => ts.take i ++ [m] ++ ts.drop (i + 2)))), some (.d (.int .i64 i)), some (.ptr 1 6 0), some (.own (.tmp 1 7 0) 3 (trees (partM ts i m k.1))), some (.d (.sl 3 (trees ms))), some (.d (.int .i64 (trees ms).length)), some (.d (.int .i64 j)), some (.d (.sl 3 (trees ts))), some (.d (.int .i64 (trees ts).length)), some (.d (.int .i64 k.1))]) (fun _ => [some (treeBox m)]) 1 [] (fun k => ts.length - k.1) (fun k => _) ?_ ⟨0, Nat.zero_le _⟩ (fun _ => rfl) (fun _ => rfl) (fun _ => rfl) (fun _ => by kernel_rfl)
        rintro ⟨k, hk0⟩ bx3 L3 ih3
        have hpl := partM_len ts i m k
        (conv => arg 1; ext i; whnf)
        refine Evx.bool (fun h4 => ?_) (fun h4 => ?_)
        · have h4 := hold_true.1 h4
          simp only [trees_len, decide_eq_true_eq] at h4
          obtain ⟨x, hx⟩ := get_some (l := ts) (i := k) (by omega)
          have hxo := ho k x hx
          (conv => arg 1; ext i; whnf)
          refine Evx.idx (m := k) rfl (trees_get hx) ?_
          (conv => arg 1; ext i; whnf)
          refine Evx.bool (fun h5 => ?_) (fun h5 => ?_)
          · have h5 := hold_true.1 h5
            simp only [beq_iff_eq] at h5
            (conv => arg 1; ext i; whnf)
            refine Evx.appd rfl (m := ((trees (partM ts i m k)).length + 1) * 65) (by rw [trees_len]; omega) ?_
            (conv => arg 1; ext i; whnf)
            refine Evx.int (wrap_succ (n := k) (by omega)) ?_
            (conv => arg 1; ext i; whnf)
            refine ih3 ⟨k + 1, by omega⟩ _ (by dsimp only; omega) ?_
            intro q
            dsimp only
            rw [show partM ts i m (k + 1) = partM ts i m k ++ [m] by simp only [partM]; rw [if_pos (by omega)], trees_app, trees_cons]
            kernel_rfl
          · have h5 := hold_false.1 h5
            simp only [beq_eq_false_iff_ne, ne_eq] at h5
            (conv => arg 1; ext i; whnf)
            refine Evx.int (wrap_succ (n := i) (by omega)) ?_
            (conv => arg 1; ext i; whnf)
            refine Evx.bool (fun h6 => ?_) (fun h6 => ?_)
            · have h6 := hold_true.1 h6
              simp only [beq_iff_eq] at h6
              (conv => arg 1; ext i; whnf)
              refine Evx.int (wrap_succ (n := k) (by omega)) ?_
              (conv => arg 1; ext i; whnf)
              refine ih3 ⟨k + 1, by omega⟩ _ (by dsimp only; omega) ?_
              intro q
              dsimp only
              rw [show partM ts i m (k + 1) = partM ts i m k by simp only [partM]; rw [if_neg (by omega), if_pos (by omega), List.append_nil]]
              kernel_rfl
            · have h6 := hold_false.1 h6
              simp only [beq_eq_false_iff_ne, ne_eq] at h6
              (conv => arg 1; ext i; whnf)
              refine Evx.call (copied_ev x (by unfold Tree.ok; omega)) ?_
              (conv => arg 1; ext i; whnf)
              refine Evx.appd rfl (m := ((trees (partM ts i m k)).length + 1) * 65) (by rw [trees_len]; omega) ?_
              (conv => arg 1; ext i; whnf)
              refine Evx.int (wrap_succ (n := k) (by omega)) ?_
              (conv => arg 1; ext i; whnf)
              refine ih3 ⟨k + 1, by omega⟩ _ (by dsimp only; omega) ?_
              intro q
              dsimp only
              rw [show partM ts i m (k + 1) = partM ts i m k ++ [x] by simp only [partM]; rw [if_neg (by omega), if_neg (by omega), hx], trees_app, trees_cons]
              kernel_rfl
        · have h4 := hold_false.1 h4
          simp only [trees_len, decide_eq_false_iff_not] at h4
          (conv => arg 1; ext i; whnf)
          refine Evx.appd rfl (m := ((lists (movesT ts i ++ (ms.take j).map fun m => ts.take i ++ [m] ++ ts.drop (i + 2))).length + 1) * 25) (by rw [lists_len, List.length_append, List.length_map, List.length_take]; omega) ?_
          (conv => arg 1; ext i; whnf)
          refine Evx.int (wrap_succ (n := j) (by omega)) ?_
          (conv => arg 1; ext i; whnf)
          have hk : partM ts i m k = ts.take i ++ [m] ++ ts.drop (i + 2) := by
            rw [show k = ts.length by omega]; exact partM_eq (by omega)
          have hq : lists (movesT ts i ++ (ms.take (j + 1)).map fun m => ts.take i ++ [m] ++ ts.drop (i + 2)) = lists (movesT ts i ++ (ms.take j).map fun m => ts.take i ++ [m] ++ ts.drop (i + 2)) ++ [[.sl 3 (trees (partM ts i m k))]] := by
            rw [take_succ' hm, List.map_append, ← List.append_assoc, lists_app _ (List.map _ [m]), hk]; rfl
          refine ih2 ⟨j + 1, by omega⟩ _ (by dsimp only; omega) ?_
          intro q
          dsimp only
          rw [hq]
          kernel_rfl
      · have h3 := hold_false.1 h3
        simp only [trees_len, decide_eq_false_iff_not] at h3
        (conv => arg 1; ext i; whnf)
        refine Evx.int (wrap_succ (n := i) (by omega)) ?_
        (conv => arg 1; ext i; whnf)
        refine (ih ⟨i + 1, by omega⟩ _ (by dsimp only; omega) ?_).to ?_
        · intro q
          rw [show movesT ts (i + 1) = movesT ts i ++ (ms.take j).map fun m => ts.take i ++ [m] ++ ts.drop (i + 2) by
            simp only [movesT, hat]; rw [List.take_of_length_le (l := ms) (by omega)]]
          kernel_rfl
        · dsimp only
          rw [if_pos (by omega)]
    · rw [hv] at em
      refine Evx.call em ?_
      (conv => arg 1; ext i; whnf)
      refine Evx.loop hint16 6 (α := Unit) (fun j => [some (.d (.sl 3 (trees ts))), some (.own (.tmp 1 3 0) 1 (lists (movesT ts i))), some (.d (.int .i64 i)), some (.d .nils), some (.d (.int .i64 0)), some (.d (.int .i64 0))]) (fun _ => []) 1 [] (fun j => 0) (fun j => _) ?_ () (fun _ => rfl) (fun _ => rfl) (fun _ => rfl) (fun _ => by kernel_rfl)
      rintro ⟨⟩ bx2 L2 ih2
      (conv => arg 1; ext i; whnf)
      refine Evx.bool (fun h3 => ?_) (fun h3 => ?_)
      · exact absurd (hold_true.1 h3) (by decide)
      (conv => arg 1; ext i; whnf)
      refine Evx.int (wrap_succ (n := i) (by omega)) ?_
      (conv => arg 1; ext i; whnf)
      refine (ih ⟨i + 1, by omega⟩ _ (by dsimp only; omega) ?_).to ?_
      · intro q
        rw [show movesT ts (i + 1) = movesT ts i by
          simp only [movesT, hat, hms, List.map_nil, List.append_nil]]
        kernel_rfl
      · dsimp only
        rw [if_pos (by omega)]
  · have h2 := hold_false.1 h2
    simp only [trees_len, decide_eq_false_iff_not] at h2
    (conv => arg 1; ext i; whnf)
    refine Evx.pure ?_
    have : (if i ≤ ts.length - 1 then ts.length - 1 else i) = i := by split <;> omega
    dsimp only
    rw [this]
    rfl

theorem rMoves_ev (ts : List Tree) (hb : bulks ts < 2 ^ 21) : Ev pr 17 [.sl 3 (trees ts)] (.ret [.own (.res 0) 1 (lists (movesT ts (ts.length - 1)))]) := by
  have hl := bulks_len ts
  have ho : ∀ (i : Nat) t, ts[i]? = some t → t.bulk < 2 ^ 21 := by
    intro i t h; have := bulk_get h; omega
  apply Ev.enter; intro c; (conv => arg 1; ext i; whnf)
  refine (Evx.loop hint17 3 (α := { i : Nat // i ≤ ts.length }) (fun i => [some (.d (.sl 3 (trees ts))), some (.own (.tmp 1 3 0) 1 (lists (movesT ts i.1))), some (.d (.int .i64 i.1))]) (fun _ => []) 1 [] (fun i => ts.length - i.1) (fun i => .ret [.own (.res 0) 1 (lists (movesT ts (if i.1 ≤ ts.length - 1 then ts.length - 1 else i.1)))]) ?_ ⟨0, Nat.zero_le _⟩ (fun _ => rfl) (fun _ => rfl) (fun _ => rfl) (fun _ => by kernel_rfl)).to (by
    rw [if_pos (Nat.zero_le _)])
  rintro ⟨i, hi⟩ bx L ih
  have hlen := movesT_len ts i
  (conv => arg 1; ext i; whnf)
  refine Evx.int (wrap_succ (n := i) (by omega)) ?_
  (conv => arg 1; ext i; whnf)
  refine Evx.bool (fun h2 => ?_) (fun h2 => ?_)
  · have h2 := hold_true.1 h2
    simp only [trees_len, decide_eq_true_eq] at h2
    obtain ⟨a, ha⟩ := get_some (l := ts) (i := i) (by omega)
    obtain ⟨b, hbb⟩ := get_some (l := ts) (i := i + 1) (by omega)
    have hao := ho i a ha
    have hbo := ho (i + 1) b hbb
    rw [if_pos (by dsimp only; omega)]
    have hat : moveAt ts i = (mergeT a b).map fun m => ts.take i ++ [m] ++ ts.drop (i + 2) := by unfold moveAt; rw [ha, hbb]
    have hml := merge_len a b
    have hmb := merge_bulk a b
    (conv => arg 1; ext i; whnf)
    refine Evx.idx (m := i) rfl (trees_get ha) ?_
    (conv => arg 1; ext i; whnf)
    refine Evx.int (wrap_succ (n := i) (by omega)) ?_
    (conv => arg 1; ext i; whnf)
    refine Evx.idx (m := i + 1) rfl (trees_get hbb) ?_
    (conv => arg 1; ext i; whnf)
    refine Evx.call (rMerge_ev a b (by omega) (by omega)) ?_
    generalize mergeT a b = ms at *
    (conv => arg 1; ext i; whnf)
    refine Evx.loop hint17 6 (α := { j : Nat // j ≤ ms.length }) (fun j => [some (.d (.sl 3 (trees ts))), some (.own (.tmp 1 3 0) 1 (lists (movesT ts i ++ (ms.take j.1).map fun m => ts.take i ++ [m] ++ ts.drop (i + 2)))), some (.d (.int .i64 i)), some (.d (.sl 3 (trees ms))), some (.d (.int .i64 (trees ms).length)), some (.d (.int .i64 j.1))]) (fun _ => []) 1 [] (fun j => ms.length - j.1) (fun j => _) ?_ ⟨0, Nat.zero_le _⟩ (fun _ => rfl) (fun _ => rfl) (fun _ => rfl) (fun _ => by rw [List.take_zero, List.map_nil, List.append_nil]; kernel_rfl)
    rintro ⟨j, hj⟩ bx2 L2 ih2
    (conv => arg 1; ext i; whnf)
    refine Evx.bool (fun h3 => ?_) (fun h3 => ?_)
    · have h3 := hold_true.1 h3
      simp only [trees_len, decide_eq_true_eq] at h3
      obtain ⟨m, hm⟩ := get_some (l := ms) (i := j) (by omega)
      (conv => arg 1; ext i; whnf)
      refine Evx.idx (m := j) rfl (trees_get hm) ?_
      (conv => arg 1; ext i; whnf)
      refine Evx.mustP (by simp only [Option.getD, trees_len]; omega) ?_
      (conv => arg 1; ext i; whnf)
      refine Evx.appd (m := (min i ts.length) * 65) (by simp [Option.getD, trees_len]; rfl) (by have := Nat.min_le_right i ts.length; omega) ?_
      (conv => arg 1; ext i; whnf)
      refine Evx.appd (m := (min i ts.length + 1) * 65) (by simp [Option.getD, trees_len]; rfl) (by have := Nat.min_le_right i ts.length; omega) ?_
      (conv => arg 1; ext i; whnf)
      refine Evx.int (n' := ((i + 2 : Nat) : Int)) (by rw [wrap_small] <;> (try dsimp only) <;> omega) ?_
      (conv => arg 1; ext i; whnf)
      refine Evx.mustP (by simp only [Option.getD, trees_len]; omega) ?_
      (conv => arg 1; ext i; whnf)
      refine Evx.appd (m := (min i ts.length + 1 + (ts.length - (i + 2))) * 65) (by simp [Option.getD, trees_len]; rw [show ((i : Int) + 2).toNat = i + 2 by omega]; rfl) (by have := Nat.min_le_right i ts.length; omega) ?_
      (conv => arg 1; ext i; whnf)
      refine Evx.appd (m := ((lists (movesT ts i ++ (ms.take j).map fun m => ts.take i ++ [m] ++ ts.drop (i + 2))).length + 1) * 25) rfl (by rw [lists_len, List.length_append, List.length_map, List.length_take]; omega) ?_
      (conv => arg 1; ext i; whnf)
      refine Evx.int (wrap_succ (n := j) (by omega)) ?_
      (conv => arg 1; ext i; whnf)
      have hq : lists (movesT ts i ++ (ms.take (j + 1)).map fun m => ts.take i ++ [m] ++ ts.drop (i + 2)) = lists (movesT ts i ++ (ms.take j).map fun m => ts.take i ++ [m] ++ ts.drop (i + 2)) ++ [[.sl 3 ((trees ts).take i ++ [[.str m.fn, .sl 1 (ints m.vs), .sl 3 (trees m.ks)]] ++ ((trees ts).take (Int.toNat ((trees ts).length : Int))).drop (i + 2))]] := by
        rw [take_succ' hm, List.map_append, ← List.append_assoc, lists_app _ (List.map _ [m]), take_all]
        show _ ++ [[D.sl 3 (trees (ts.take i ++ [m] ++ ts.drop (i + 2)))]] = _
        rw [trees_app, trees_app, trees_take, trees_drop, trees_cons]; rfl
      refine ih2 ⟨j + 1, by omega⟩ _ (by dsimp only; omega) ?_
      intro q
      dsimp only
      rw [hq]
      kernel_rfl
    · have h3 := hold_false.1 h3
      simp only [trees_len, decide_eq_false_iff_not] at h3
      (conv => arg 1; ext i; whnf)
      refine Evx.int (wrap_succ (n := i) (by omega)) ?_
      (conv => arg 1; ext i; whnf)
      refine (ih ⟨i + 1, by omega⟩ _ (by dsimp only; omega) ?_).to ?_
      · intro q
        rw [show movesT ts (i + 1) = movesT ts i ++ (ms.take j).map fun m => ts.take i ++ [m] ++ ts.drop (i + 2) by
          simp only [movesT, hat]; rw [List.take_of_length_le (l := ms) (by omega)]]
        kernel_rfl
      · dsimp only
        rw [if_pos (by omega)]
  · have h2 := hold_false.1 h2
    simp only [trees_len, decide_eq_false_iff_not] at h2
    (conv => arg 1; ext i; whnf)
    refine Evx.pure ?_
    have : (if i ≤ ts.length - 1 then ts.length - 1 else i) = i := by split <;> omega
    dsimp only
    rw [this]
    rfl

end Go.Proofs.YtfiefcfjedmhaaaDoor
