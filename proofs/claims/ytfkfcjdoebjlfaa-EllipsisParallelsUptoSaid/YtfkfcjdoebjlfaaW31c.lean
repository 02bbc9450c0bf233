/- Categories walked. -/
import Derived.Test.YtfkfcjdoebjlfaaW31
import Derived.Test.YtfkfcjdoebjlfaaS31c
namespace Go.Proofs.Ytfkfcjdoebjlfaa
open Go Go.Abs Go.Abs.Asks
set_option linter.unusedVariables false
set_option linter.unusedSimpArgs false
set_option linter.unusedSectionVars false
variable [Asks]

theorem idx_drop {l : List Fun} {a : Nat} {f : Fun} {n : ByteArray} (h : l[a]? = some f) : idxF (l.drop a) n = if f.name = n then 0 else idxF (l.drop (a + 1)) n + 1 := by
  rw [drop_cons h]; simp only [idxF]

theorem aIndex_ev (l : List Fun) (n : ByteArray) (hl : l.length < 2 ^ 30) : Ev pr 58 [.sl 4 (funs l), .str n] (.ret [.d (.int .i64 (idxF l n))]) := by
  apply Ev.enter; intro c; (conv => arg 1; ext i; whnf)
  refine (Evx.loop hint58 2 (α := Nat) (fun a => [some (.d (.sl 4 (funs l))), some (.d (.str n)), some (.d (.sl 4 (funs l))), some (.d (.int .i64 (funs l).length)), some (.d (.int .i64 a))]) (fun a => []) 1 [] (fun a => l.length - a) (fun a => .ret [.d (.int .i64 ((if a ≤ l.length then a + idxF (l.drop a) n else l.length : Nat) : Int))]) ?_ 0 (fun _ => rfl) (fun _ => rfl) (fun _ => rfl) (fun _ => by kernel_rfl)).to (by simp)
  intro a bx L ih'; (conv => arg 1; ext i; whnf)
  refine Evx.bool (fun h2 => ?_) (fun h2 => ?_)
  · have h2 := hold_true.1 h2
    simp only [funs_len, decide_eq_true_eq] at h2
    obtain ⟨x, hx⟩ := get_some (l := l) (i := a) (by omega)
    rw [if_pos (by omega), idx_drop hx]
    (conv => arg 1; ext i; whnf)
    refine Evx.idx rfl (funs_get hx) ?_
    (conv => arg 1; ext i; whnf)
    refine Evx.bool (fun h3 => ?_) (fun h3 => ?_)
    · (conv => arg 1; ext i; whnf)
      refine Evx.pure ?_
      rw [if_pos (seq_iff.1 h3)]; rfl
    · (conv => arg 1; ext i; whnf)
      refine Evx.int (wrap_succ (by omega)) ?_
      (conv => arg 1; ext i; whnf)
      refine (ih' (a + 1) _ (by omega) (fun _ => by kernel_rfl)).to ?_
      rw [if_neg (seq_ne.1 h3), if_pos (by omega)]
      congr 5; omega
  · have h2 := hold_false.1 h2
    simp only [funs_len, decide_eq_false_iff_not] at h2
    (conv => arg 1; ext i; whnf)
    refine Evx.pure ?_
    rw [funs_len]
    split
    · rw [List.drop_eq_nil_of_le (by omega)]; simp only [idxF]; congr 5; omega
    · rfl

theorem rIndex_ev (l : List Fun) (n : ByteArray) (hl : l.length < 2 ^ 30) : Ev pr 56 [.sl 4 (funs l), .str n] (.ret [.d (.int .i64 (idxF l n))]) := by
  apply Ev.enter; intro c; (conv => arg 1; ext i; whnf)
  refine (Evx.loop hint56 2 (α := Nat) (fun a => [some (.d (.sl 4 (funs l))), some (.d (.str n)), some (.d (.int .i64 a))]) (fun a => []) 1 [] (fun a => l.length - a) (fun a => .ret [.d (.int .i64 ((if a ≤ l.length then a + idxF (l.drop a) n else l.length : Nat) : Int))]) ?_ 0 (fun _ => rfl) (fun _ => rfl) (fun _ => rfl) (fun _ => by kernel_rfl)).to (by simp)
  intro a bx L ih'; (conv => arg 1; ext i; whnf)
  refine Evx.bool (fun h2 => ?_) (fun h2 => ?_)
  · have h2 := hold_true.1 h2
    simp only [funs_len, decide_eq_true_eq] at h2
    obtain ⟨x, hx⟩ := get_some (l := l) (i := a) (by omega)
    rw [if_pos (by omega), idx_drop hx]
    (conv => arg 1; ext i; whnf)
    refine Evx.idx rfl (funs_get hx) ?_
    (conv => arg 1; ext i; whnf)
    refine Evx.bool (fun h3 => ?_) (fun h3 => ?_)
    · (conv => arg 1; ext i; whnf)
      refine Evx.pure ?_
      rw [if_pos (seq_iff.1 h3)]; rfl
    · (conv => arg 1; ext i; whnf)
      refine Evx.int (wrap_succ (by omega)) ?_
      (conv => arg 1; ext i; whnf)
      refine (ih' (a + 1) _ (by omega) (fun _ => by kernel_rfl)).to ?_
      rw [if_neg (seq_ne.1 h3), if_pos (by omega)]
      congr 5; omega
  · have h2 := hold_false.1 h2
    simp only [funs_len, decide_eq_false_iff_not] at h2
    (conv => arg 1; ext i; whnf)
    refine Evx.pure ?_
    rw [funs_len]
    split
    · rw [List.drop_eq_nil_of_le (by omega)]; simp only [idxF]; congr 5; omega
    · rfl

theorem aValue_ev (n : Int) : Ev pr 59 [.int .i64 n] (.ret [.d (.bool (okValue n))]) := by
  apply Ev.enter; intro c; (conv => arg 1; ext i; whnf)
  refine Evx.bool (fun h3 => ?_) (fun h3 => ?_)
  · have h3 := hold_true.1 h3
    simp only [ge_iff_le, decide_eq_true_eq] at h3
    (conv => arg 1; ext i; whnf)
    refine Evx.pure ?_
    rw [hold_eq, okValue, decide_eq_true h3]; rfl
  · have h3 := hold_false.1 h3
    simp only [ge_iff_le, decide_eq_false_iff_not] at h3
    (conv => arg 1; ext i; whnf)
    refine Evx.pure ?_
    rw [okValue, decide_eq_false h3]; rfl
theorem rValue_ev (n : Int) : Ev pr 57 [.int .i64 n] (.ret [.d (.bool (okValue n))]) := by
  apply Ev.enter; intro c; (conv => arg 1; ext i; whnf)
  refine Evx.bool (fun h3 => ?_) (fun h3 => ?_)
  · have h3 := hold_true.1 h3
    simp only [ge_iff_le, decide_eq_true_eq] at h3
    (conv => arg 1; ext i; whnf)
    refine Evx.pure ?_
    rw [hold_eq, okValue, decide_eq_true h3]; rfl
  · have h3 := hold_false.1 h3
    simp only [ge_iff_le, decide_eq_false_iff_not] at h3
    (conv => arg 1; ext i; whnf)
    refine Evx.pure ?_
    rw [okValue, decide_eq_false h3]; rfl

theorem wells_len {l : List Fun} : ∀ {ts : List Tree} {qs : List ByteArray}, wells l ts qs = true → ts.length ≤ qs.length
  | [], _, _ => Nat.zero_le _
  | _ :: _, [], h => by simp [wells] at h
  | t :: ts, q :: qs, h => by
    simp only [wells, Bool.and_eq_true] at h
    have := wells_len h.2
    simp only [List.length_cons]; omega

theorem formed_ev (l : List Fun) (hl : l.length < 2 ^ 30) (t : Tree) : t.ok → Ev pr 50 [.sl 4 (funs l), t.d] (.ret [.d (.str (wellR l t).1), .d (.bool (wellR l t).2)]) := by
  induction t using Tree.rec' with
  | _ t ih =>
    intro ht
    have hk := ht.ks
    have hv := ht.vs
    unfold wellR
    rw [well_eq]
    apply Ev.enter; intro c; (conv => arg 1; ext i; whnf)
    refine Evx.call (aIndex_ev l t.fn hl) ?_
    have hi := idxF_le l t.fn
    (conv => arg 1; ext i; whnf)
    refine Evx.bool (fun h1 => ?_) (fun h1 => ?_)
    · have h1 := hold_true.1 h1
      simp only [funs_len, beq_iff_eq] at h1
      (conv => arg 1; ext i; whnf)
      refine Evx.pure ?_
      rw [List.getElem?_eq_none (by omega)]
    · have h1 := hold_false.1 h1
      simp only [funs_len, beq_eq_false_iff_ne, ne_eq] at h1
      obtain ⟨g, hg⟩ := get_some (l := l) (i := idxF l t.fn) (by omega)
      (conv => arg 1; ext i; whnf)
      refine Evx.idx rfl (funs_get hg) ?_
      rw [hg]
      dsimp only
      (conv => arg 1; ext i; whnf)
      refine Evx.bool (fun h2 => ?_) (fun h2 => ?_)
      · have h2 := hold_true.1 h2
        simp only [trees_len, strs_len, bne_iff_ne, ne_eq] at h2
        (conv => arg 1; ext i; whnf)
        refine Evx.pure ?_
        rw [if_neg (by rintro ⟨q1, _⟩; omega)]
      have h2 := hold_false.1 h2
      simp only [trees_len, strs_len, bne_eq_false_iff_eq] at h2
      (conv => arg 1; ext i; whnf)
      refine Evx.bool (fun h3 => ?_) (fun h3 => ?_)
      · have h3 := hold_true.1 h3
        simp only [ints_len, bne_iff_ne, ne_eq] at h3
        (conv => arg 1; ext i; whnf)
        refine Evx.pure ?_
        rw [if_neg (by rintro ⟨_, q1, _⟩; omega)]
      have h3 := hold_false.1 h3
      simp only [ints_len, bne_eq_false_iff_eq] at h3
      (conv => arg 1; ext i; whnf)
      refine (Evx.loop hint50 8 (α := { a : Nat // (t.vs.take a).all okValue = true }) (fun a => [some (.d (.sl 4 (funs l))), some (.ptr 1 3 0), some (.ptr 1 7 0), some (.d (.sl 1 (ints t.vs))), some (.d (.int .i64 (ints t.vs).length)), some (.d (.int .i64 a.1))]) (fun a => [some (treeBox t), some ⟨[.d (.str g.name), .d (.sl 1 (strs g.args)), .d (.str g.res), .d (.int .i64 g.vals)], false⟩]) 1 [] (fun a => t.vs.length - a.1) (fun a => _) ?_ ⟨0, by simp⟩ (fun _ => rfl) (fun _ => rfl) (fun _ => rfl) (fun _ => by kernel_rfl))
      rintro ⟨a, ha⟩ bx L ih'; (conv => arg 1; ext i; whnf)
      refine Evx.bool (fun h4 => ?_) (fun h4 => ?_)
      · have h4 := hold_true.1 h4
        simp only [ints_len, decide_eq_true_eq] at h4
        obtain ⟨x, hx⟩ := get_some (l := t.vs) (i := a) (by omega)
        (conv => arg 1; ext i; whnf)
        refine Evx.idx rfl (ints_get hx) ?_
        (conv => arg 1; ext i; whnf)
        refine Evx.call (aValue_ev x) ?_
        (conv => arg 1; ext i; whnf)
        refine Evx.bool (fun h5 => ?_) (fun h5 => ?_)
        · simp only [Bool.not_eq_true'] at h5
          (conv => arg 1; ext i; whnf)
          refine Evx.pure ?_
          rw [if_neg (by
            rintro ⟨_, _, q, _⟩
            have := List.all_eq_true.1 q x (List.mem_of_getElem? hx)
            rw [h5] at this; cases this)]
        · simp only [Bool.not_eq_false'] at h5
          (conv => arg 1; ext i; whnf)
          refine Evx.int (wrap_succ (by dsimp only; omega)) ?_
          (conv => arg 1; ext i; whnf)
          exact ih' ⟨a + 1, by rw [take_succ' hx, List.all_append, ha]; simp [h5]⟩ _ (by dsimp only; omega) (fun _ => by kernel_rfl)
      · have h4 := hold_false.1 h4
        simp only [ints_len, decide_eq_false_iff_not] at h4
        have hall : t.vs.all okValue = true := by rw [List.take_of_length_le (by omega)] at ha; exact ha
        (conv => arg 1; ext i; whnf)
        refine (Evx.loop hint50 14 (α := { a : Nat // wells l t.ks g.args = wells l (t.ks.drop a) (g.args.drop a) }) (fun a => [some (.d (.sl 4 (funs l))), some (.ptr 1 7 0), some (.d (.sl 3 (trees t.ks))), some (.d (.int .i64 (trees t.ks).length)), some (.d (.int .i64 a.1))]) (fun a => [some ⟨[.d (.str g.name), .d (.sl 1 (strs g.args)), .d (.str g.res), .d (.int .i64 g.vals)], false⟩]) 1 [] (fun a => t.ks.length - a.1) (fun a => _) ?_ ⟨0, by simp⟩ (fun _ => rfl) (fun _ => rfl) (fun _ => rfl) (fun _ => by kernel_rfl))
        clear ih' L bx
        rintro ⟨a, ha2⟩ bx L ih'; (conv => arg 1; ext i; whnf)
        refine Evx.bool (fun h4 => ?_) (fun h4 => ?_)
        · have h4 := hold_true.1 h4
          simp only [trees_len, decide_eq_true_eq] at h4
          obtain ⟨x, hx⟩ := get_some (l := t.ks) (i := a) (by omega)
          obtain ⟨y, hy⟩ := get_some (l := g.args) (i := a) (by omega)
          (conv => arg 1; ext i; whnf)
          refine Evx.idx rfl (trees_get hx) ?_
          (conv => arg 1; ext i; whnf)
          refine Evx.call (ih a x hx (ht.kid hx)) ?_
          have hw : wells l t.ks g.args = (decide (x.well l = some y) && wells l (t.ks.drop (a + 1)) (g.args.drop (a + 1))) := by
            rw [ha2, drop_cons hx, drop_cons hy]; simp only [wells]
          unfold wellR
          cases hxw : x.well l with
          | none =>
            rw [hxw] at hw
            (conv => arg 1; ext i; whnf)
            refine Evx.pure ?_
            rw [if_neg (by rintro ⟨_, _, _, q⟩; rw [q] at hw; simp at hw)]
          | some d =>
            rw [hxw] at hw
            (conv => arg 1; ext i; whnf)
            refine Evx.idx rfl (strs_get hy) ?_
            (conv => arg 1; ext i; whnf)
            refine Evx.bool (fun h5 => ?_) (fun h5 => ?_)
            · simp only [Bool.not_eq_true'] at h5
              have h5 := seq_ne.1 h5
              (conv => arg 1; ext i; whnf)
              refine Evx.pure ?_
              rw [if_neg (by rintro ⟨_, _, _, q⟩; rw [q] at hw; simp [h5] at hw)]
            · simp only [Bool.not_eq_false'] at h5
              have h5 := seq_iff.1 h5
              (conv => arg 1; ext i; whnf)
              refine Evx.int (wrap_succ (by dsimp only; omega)) ?_
              (conv => arg 1; ext i; whnf)
              exact ih' ⟨a + 1, by rw [hw, h5]; simp⟩ _ (by dsimp only; omega) (fun _ => by kernel_rfl)
        · have h4 := hold_false.1 h4
          simp only [trees_len, decide_eq_false_iff_not] at h4
          have hd : t.ks.drop a = [] := List.drop_eq_nil_of_le (by omega)
          rw [hd] at ha2
          (conv => arg 1; ext i; whnf)
          refine Evx.pure ?_
          rw [if_pos ⟨by omega, by omega, hall, by rw [ha2]; simp [wells]⟩]

theorem rWell_ev (l : List Fun) (hl : l.length < 2 ^ 30) (t : Tree) : t.ok → Ev pr 45 [.sl 4 (funs l), t.d] (.ret [.d (.str (wellR l t).1), .d (.bool (wellR l t).2)]) := by
  induction t using Tree.rec' with
  | _ t ih =>
    intro ht
    have hk := ht.ks
    have hv := ht.vs
    unfold wellR
    rw [well_eq]
    apply Ev.enter; intro c; (conv => arg 1; ext i; whnf)
    refine Evx.call (rIndex_ev l t.fn hl) ?_
    have hi := idxF_le l t.fn
    (conv => arg 1; ext i; whnf)
    refine Evx.bool (fun h1 => ?_) (fun h1 => ?_)
    · have h1 := hold_true.1 h1
      simp only [funs_len, beq_iff_eq] at h1
      (conv => arg 1; ext i; whnf)
      refine Evx.pure ?_
      rw [List.getElem?_eq_none (by omega)]
    · have h1 := hold_false.1 h1
      simp only [funs_len, beq_eq_false_iff_ne, ne_eq] at h1
      obtain ⟨g, hg⟩ := get_some (l := l) (i := idxF l t.fn) (by omega)
      (conv => arg 1; ext i; whnf)
      refine Evx.idx rfl (funs_get hg) ?_
      rw [hg]
      dsimp only
      (conv => arg 1; ext i; whnf)
      refine Evx.bool (fun h2 => ?_) (fun h2 => ?_)
      · have h2 := hold_true.1 h2
        simp only [trees_len, strs_len, bne_iff_ne, ne_eq] at h2
        (conv => arg 1; ext i; whnf)
        refine Evx.pure ?_
        rw [if_neg (by rintro ⟨q1, _⟩; omega)]
      have h2 := hold_false.1 h2
      simp only [trees_len, strs_len, bne_eq_false_iff_eq] at h2
      (conv => arg 1; ext i; whnf)
      refine Evx.idx rfl (funs_get hg) ?_
      (conv => arg 1; ext i; whnf)
      refine Evx.bool (fun h3 => ?_) (fun h3 => ?_)
      · have h3 := hold_true.1 h3
        simp only [ints_len, bne_iff_ne, ne_eq] at h3
        (conv => arg 1; ext i; whnf)
        refine Evx.pure ?_
        rw [if_neg (by rintro ⟨_, q1, _⟩; omega)]
      have h3 := hold_false.1 h3
      simp only [ints_len, bne_eq_false_iff_eq] at h3
      (conv => arg 1; ext i; whnf)
      refine (Evx.loop hint45 5 (α := { a : Nat // (t.vs.take a).all okValue = true }) (fun a => [some (.d (.sl 4 (funs l))), some (.ptr 1 3 0), some (.d (.int .i64 (idxF l t.fn))), some (.d (.int .i64 a.1))]) (fun a => [some (treeBox t)]) 1 [] (fun a => t.vs.length - a.1) (fun a => _) ?_ ⟨0, by simp⟩ (fun _ => rfl) (fun _ => rfl) (fun _ => rfl) (fun _ => by kernel_rfl))
      rintro ⟨a, ha⟩ bx L ih'; (conv => arg 1; ext i; whnf)
      refine Evx.bool (fun h4 => ?_) (fun h4 => ?_)
      · have h4 := hold_true.1 h4
        simp only [ints_len, decide_eq_true_eq] at h4
        obtain ⟨x, hx⟩ := get_some (l := t.vs) (i := a) (by omega)
        (conv => arg 1; ext i; whnf)
        refine Evx.idx rfl (ints_get hx) ?_
        (conv => arg 1; ext i; whnf)
        refine Evx.call (rValue_ev x) ?_
        (conv => arg 1; ext i; whnf)
        refine Evx.bool (fun h5 => ?_) (fun h5 => ?_)
        · simp only [Bool.not_eq_true'] at h5
          (conv => arg 1; ext i; whnf)
          refine Evx.pure ?_
          rw [if_neg (by
            rintro ⟨_, _, q, _⟩
            have := List.all_eq_true.1 q x (List.mem_of_getElem? hx)
            rw [h5] at this; cases this)]
        · simp only [Bool.not_eq_false'] at h5
          (conv => arg 1; ext i; whnf)
          refine Evx.int (wrap_succ (by dsimp only; omega)) ?_
          (conv => arg 1; ext i; whnf)
          exact ih' ⟨a + 1, by rw [take_succ' hx, List.all_append, ha]; simp [h5]⟩ _ (by dsimp only; omega) (fun _ => by kernel_rfl)
      · have h4 := hold_false.1 h4
        simp only [ints_len, decide_eq_false_iff_not] at h4
        have hall : t.vs.all okValue = true := by rw [List.take_of_length_le (by omega)] at ha; exact ha
        (conv => arg 1; ext i; whnf)
        refine (Evx.loop hint45 10 (α := { a : Nat // wells l t.ks g.args = wells l (t.ks.drop a) (g.args.drop a) }) (fun a => [some (.d (.sl 4 (funs l))), some (.ptr 1 3 0), some (.d (.int .i64 (idxF l t.fn))), some (.d (.int .i64 a.1))]) (fun a => [some (treeBox t)]) 1 [] (fun a => t.ks.length - a.1) (fun a => _) ?_ ⟨0, by simp⟩ (fun _ => rfl) (fun _ => rfl) (fun _ => rfl) (fun _ => by kernel_rfl))
        clear ih' L bx
        rintro ⟨a, ha2⟩ bx L ih'; (conv => arg 1; ext i; whnf)
        refine Evx.bool (fun h4 => ?_) (fun h4 => ?_)
        · have h4 := hold_true.1 h4
          simp only [trees_len, decide_eq_true_eq] at h4
          obtain ⟨x, hx⟩ := get_some (l := t.ks) (i := a) (by omega)
          obtain ⟨y, hy⟩ := get_some (l := g.args) (i := a) (by omega)
          (conv => arg 1; ext i; whnf)
          refine Evx.idx rfl (trees_get hx) ?_
          (conv => arg 1; ext i; whnf)
          refine Evx.call (ih a x hx (ht.kid hx)) ?_
          have hw : wells l t.ks g.args = (decide (x.well l = some y) && wells l (t.ks.drop (a + 1)) (g.args.drop (a + 1))) := by
            rw [ha2, drop_cons hx, drop_cons hy]; simp only [wells]
          unfold wellR
          cases hxw : x.well l with
          | none =>
            rw [hxw] at hw
            (conv => arg 1; ext i; whnf)
            refine Evx.pure ?_
            rw [if_neg (by rintro ⟨_, _, _, q⟩; rw [q] at hw; simp at hw)]
          | some d =>
            rw [hxw] at hw
            (conv => arg 1; ext i; whnf)
            refine Evx.idx rfl (funs_get hg) ?_
            (conv => arg 1; ext i; whnf)
            refine Evx.idx rfl (strs_get hy) ?_
            (conv => arg 1; ext i; whnf)
            refine Evx.bool (fun h5 => ?_) (fun h5 => ?_)
            · simp only [Bool.not_eq_true'] at h5
              have h5 := seq_ne.1 h5
              (conv => arg 1; ext i; whnf)
              refine Evx.pure ?_
              rw [if_neg (by rintro ⟨_, _, _, q⟩; rw [q] at hw; simp [h5] at hw)]
            · simp only [Bool.not_eq_false'] at h5
              have h5 := seq_iff.1 h5
              (conv => arg 1; ext i; whnf)
              refine Evx.int (wrap_succ (by dsimp only; omega)) ?_
              (conv => arg 1; ext i; whnf)
              exact ih' ⟨a + 1, by rw [hw, h5]; simp⟩ _ (by dsimp only; omega) (fun _ => by kernel_rfl)
        · have h4 := hold_false.1 h4
          simp only [trees_len, decide_eq_false_iff_not] at h4
          have hd : t.ks.drop a = [] := List.drop_eq_nil_of_le (by omega)
          rw [hd] at ha2
          (conv => arg 1; ext i; whnf)
          refine Evx.idx rfl (funs_get hg) ?_
          (conv => arg 1; ext i; whnf)
          refine Evx.pure ?_
          rw [if_pos ⟨by omega, by omega, hall, by rw [ha2]; simp [wells]⟩]

theorem aCat_ev (l : List Fun) (hl : l.length < 2 ^ 30) (t : Tree) (ht : t.ok) : Ev pr 32 [.sl 4 (funs l), t.d] (.ret [.d (.str (catR l t).1), .d (.int .i64 (catR l t).2)]) := by
  apply Ev.enter; intro c; (conv => arg 1; ext i; whnf)
  refine Evx.call (aSize_ev t ht) ?_
  (conv => arg 1; ext i; whnf)
  unfold catR
  refine Evx.bool (fun h1 => ?_) (fun h1 => ?_)
  · have h1 := hold_true.1 h1
    simp only [gt_iff_lt, decide_eq_true_eq] at h1
    (conv => arg 1; ext i; whnf)
    refine Evx.pure ?_
    rw [if_pos (by omega)]
  have h1 := hold_false.1 h1
  simp only [gt_iff_lt, decide_eq_false_iff_not] at h1
  rw [if_neg (by omega)]
  (conv => arg 1; ext i; whnf)
  refine Evx.call (formed_ev l hl t ht) ?_
  unfold wellR
  cases t.well l with
  | none => (conv => arg 1; ext i; whnf); exact Evx.pure rfl
  | some c => (conv => arg 1; ext i; whnf); exact Evx.pure rfl
theorem rCat_ev (l : List Fun) (hl : l.length < 2 ^ 30) (t : Tree) (ht : t.ok) : Ev pr 26 [.sl 4 (funs l), t.d] (.ret [.d (.str (catR l t).1), .d (.int .i64 (catR l t).2)]) := by
  apply Ev.enter; intro c; (conv => arg 1; ext i; whnf)
  refine Evx.call (rSize_ev t ht) ?_
  (conv => arg 1; ext i; whnf)
  unfold catR
  refine Evx.bool (fun h1 => ?_) (fun h1 => ?_)
  · have h1 := hold_true.1 h1
    simp only [gt_iff_lt, decide_eq_true_eq] at h1
    (conv => arg 1; ext i; whnf)
    refine Evx.pure ?_
    rw [if_pos (by omega)]
  have h1 := hold_false.1 h1
  simp only [gt_iff_lt, decide_eq_false_iff_not] at h1
  rw [if_neg (by omega)]
  (conv => arg 1; ext i; whnf)
  refine Evx.call (rWell_ev l hl t ht) ?_
  unfold wellR
  cases t.well l with
  | none => (conv => arg 1; ext i; whnf); exact Evx.pure rfl
  | some c => (conv => arg 1; ext i; whnf); exact Evx.pure rfl

/-- The table of the functions. Printed by genfuns.py. -/
def fs0 : List Fun := [
  ⟨⟨#[78, 97, 109, 101]⟩, [⟨#[80, 78]⟩], ⟨#[78, 80]⟩, 0⟩,
  ⟨⟨#[69, 118, 101, 114, 121]⟩, [⟨#[67, 78]⟩], ⟨#[78, 80]⟩, 0⟩,
  ⟨⟨#[83, 111, 109, 101]⟩, [⟨#[67, 78]⟩], ⟨#[78, 80]⟩, 0⟩,
  ⟨⟨#[78, 111]⟩, [⟨#[67, 78]⟩], ⟨#[78, 80]⟩, 0⟩,
  ⟨⟨#[69, 118, 101, 114, 121, 69, 120, 99, 101, 112, 116]⟩, [⟨#[67, 78]⟩, ⟨#[67, 78]⟩], ⟨#[78, 80]⟩, 0⟩,
  ⟨⟨#[66, 111, 116, 104]⟩, [⟨#[78, 80]⟩, ⟨#[78, 80]⟩], ⟨#[78, 80]⟩, 0⟩,
  ⟨⟨#[73, 116]⟩, [], ⟨#[78, 80]⟩, 0⟩,
  ⟨⟨#[84, 104, 101, 121]⟩, [], ⟨#[78, 80]⟩, 0⟩,
  ⟨⟨#[78, 111, 117, 110]⟩, [⟨#[78]⟩], ⟨#[67, 78]⟩, 0⟩,
  ⟨⟨#[65, 100, 106]⟩, [⟨#[65]⟩, ⟨#[67, 78]⟩], ⟨#[67, 78]⟩, 0⟩,
  ⟨⟨#[87, 104, 111]⟩, [⟨#[67, 78]⟩, ⟨#[86, 80]⟩], ⟨#[67, 78]⟩, 0⟩,
  ⟨⟨#[65, 99, 116]⟩, [⟨#[86, 49]⟩], ⟨#[86, 80]⟩, 0⟩,
  ⟨⟨#[68, 111]⟩, [⟨#[86, 50]⟩, ⟨#[78, 80]⟩], ⟨#[86, 80]⟩, 0⟩,
  ⟨⟨#[71, 105, 118, 101]⟩, [⟨#[86, 51]⟩, ⟨#[78, 80]⟩, ⟨#[78, 80]⟩], ⟨#[86, 80]⟩, 0⟩,
  ⟨⟨#[67, 111, 115, 116]⟩, [⟨#[86, 81]⟩], ⟨#[86, 80]⟩, 1⟩,
  ⟨⟨#[65, 110, 100, 86, 80]⟩, [⟨#[86, 80]⟩, ⟨#[86, 80]⟩], ⟨#[86, 80]⟩, 0⟩,
  ⟨⟨#[65, 115, 115, 101, 114, 116]⟩, [⟨#[78, 80]⟩, ⟨#[86, 80]⟩], ⟨#[83]⟩, 0⟩,
  ⟨⟨#[77, 117, 115, 116]⟩, [⟨#[78, 80]⟩, ⟨#[86, 80]⟩], ⟨#[83]⟩, 0⟩,
  ⟨⟨#[77, 117, 115, 116, 78, 111, 116]⟩, [⟨#[78, 80]⟩, ⟨#[86, 80]⟩], ⟨#[83]⟩, 0⟩,
  ⟨⟨#[77, 97, 121]⟩, [⟨#[78, 80]⟩, ⟨#[86, 80]⟩], ⟨#[83]⟩, 0⟩,
  ⟨⟨#[68, 117, 114, 105, 110, 103]⟩, [⟨#[83]⟩], ⟨#[83]⟩, 2⟩,
  ⟨⟨#[83, 105, 110, 99, 101]⟩, [⟨#[83]⟩], ⟨#[83]⟩, 1⟩,
  ⟨⟨#[85, 110, 116, 105, 108]⟩, [⟨#[83]⟩], ⟨#[83]⟩, 1⟩,
  ⟨⟨#[65, 110, 100]⟩, [⟨#[83]⟩, ⟨#[83]⟩], ⟨#[83]⟩, 0⟩,
  ⟨⟨#[79, 114]⟩, [⟨#[83]⟩, ⟨#[83]⟩], ⟨#[83]⟩, 0⟩,
  ⟨⟨#[73, 102]⟩, [⟨#[83]⟩, ⟨#[83]⟩], ⟨#[83]⟩, 0⟩,
  ⟨⟨#[65, 108, 115, 111]⟩, [⟨#[83]⟩, ⟨#[78, 80]⟩], ⟨#[83]⟩, 0⟩,
  ⟨⟨#[80, 108, 101, 97, 115, 101]⟩, [⟨#[83]⟩], ⟨#[83]⟩, 0⟩,
  ⟨⟨#[112, 97, 115, 115, 101, 110, 103, 101, 114]⟩, [], ⟨#[78]⟩, 0⟩,
  ⟨⟨#[99, 104, 105, 108, 100]⟩, [], ⟨#[78]⟩, 0⟩,
  ⟨⟨#[103, 117, 97, 114, 100]⟩, [], ⟨#[78]⟩, 0⟩,
  ⟨⟨#[100, 111, 103]⟩, [], ⟨#[78]⟩, 0⟩,
  ⟨⟨#[102, 101, 114, 114, 121]⟩, [], ⟨#[78]⟩, 0⟩,
  ⟨⟨#[116, 105, 99, 107, 101, 116]⟩, [], ⟨#[78]⟩, 0⟩,
  ⟨⟨#[98, 97, 103]⟩, [], ⟨#[78]⟩, 0⟩,
  ⟨⟨#[100, 111, 111, 114]⟩, [], ⟨#[78]⟩, 0⟩,
  ⟨⟨#[116, 105, 114, 101, 100]⟩, [], ⟨#[65]⟩, 0⟩,
  ⟨⟨#[111, 108, 100]⟩, [], ⟨#[65]⟩, 0⟩,
  ⟨⟨#[119, 101, 116]⟩, [], ⟨#[65]⟩, 0⟩,
  ⟨⟨#[115, 109, 97, 108, 108]⟩, [], ⟨#[65]⟩, 0⟩,
  ⟨⟨#[108, 111, 99, 107, 101, 100]⟩, [], ⟨#[65]⟩, 0⟩,
  ⟨⟨#[119, 97, 105, 116]⟩, [], ⟨#[86, 49]⟩, 0⟩,
  ⟨⟨#[115, 108, 101, 101, 112]⟩, [], ⟨#[86, 49]⟩, 0⟩,
  ⟨⟨#[115, 109, 111, 107, 101]⟩, [], ⟨#[86, 49]⟩, 0⟩,
  ⟨⟨#[100, 101, 112, 97, 114, 116]⟩, [], ⟨#[86, 49]⟩, 0⟩,
  ⟨⟨#[97, 114, 114, 105, 118, 101]⟩, [], ⟨#[86, 49]⟩, 0⟩,
  ⟨⟨#[99, 97, 114, 114, 121]⟩, [], ⟨#[86, 50]⟩, 0⟩,
  ⟨⟨#[111, 112, 101, 110]⟩, [], ⟨#[86, 50]⟩, 0⟩,
  ⟨⟨#[116, 111, 117, 99, 104]⟩, [], ⟨#[86, 50]⟩, 0⟩,
  ⟨⟨#[98, 111, 97, 114, 100]⟩, [], ⟨#[86, 50]⟩, 0⟩,
  ⟨⟨#[101, 110, 116, 101, 114]⟩, [], ⟨#[86, 50]⟩, 0⟩,
  ⟨⟨#[115, 104, 111, 119]⟩, [], ⟨#[86, 51]⟩, 0⟩,
  ⟨⟨#[103, 105, 118, 101]⟩, [], ⟨#[86, 51]⟩, 0⟩,
  ⟨⟨#[114, 101, 116, 117, 114, 110]⟩, [], ⟨#[86, 51]⟩, 0⟩,
  ⟨⟨#[99, 111, 115, 116]⟩, [], ⟨#[86, 81]⟩, 0⟩,
  ⟨⟨#[119, 101, 105, 103, 104]⟩, [], ⟨#[86, 81]⟩, 0⟩,
  ⟨⟨#[109, 97, 114, 116, 97]⟩, [], ⟨#[80, 78]⟩, 0⟩,
  ⟨⟨#[99, 97, 112, 116, 97, 105, 110]⟩, [], ⟨#[80, 78]⟩, 0⟩,
  ⟨⟨#[110, 111, 114, 116, 104, 45, 102, 101, 114, 114, 121]⟩, [], ⟨#[80, 78]⟩, 0⟩,
  ⟨⟨#[115, 111, 117, 116, 104, 45, 102, 101, 114, 114, 121]⟩, [], ⟨#[80, 78]⟩, 0⟩,
  ⟨⟨#[111, 108, 100, 45, 113, 117, 97, 121]⟩, [], ⟨#[80, 78]⟩, 0⟩
]
theorem functions_ev : Ev pr 27 [] (.ret [.own (.res 0) 4 (funs fs0)]) := Ev.of_run 3 fun n k => by kernel_rfl
theorem fs0_len : fs0.length < 2 ^ 30 := Nat.lt_of_lt_of_le (show fs0.length < 100 from of_decide_eq_true (by kernel_rfl)) (by decide)
end Go.Proofs.Ytfkfcjdoebjlfaa
