/- The contract of slices.Clone, proved; the program is as its tables say. -/
import Derived.Test.YtehkgiofchmpaaaDoorPr
import Derived.Test.YtehkgiofchmpaaaDoorOk
import Derived.Test.YtehkgiofchmpaaaDoorAbsKd
import Derived.Test.YtehkgiofchmpaaaDoorShelf
import Derived.Test.YtehkgiofchmpaaaDoorBld
import Derived.KernelRfl
import Derived.WalkKit
import Derived.ProofKit
namespace Go.Proofs.YtehkgiofchmpaaaDoor
open Go Go.Abs Go.Abs.Asks
set_option linter.unusedVariables false
set_option linter.unusedSimpArgs false
set_option linter.unusedSectionVars false

theorem pr0ok (m : Nat) : PrOk Tryd.prog (pr0 m) where
  mix := mixok
  T := tyok
  F := fok
  H := hok
  K := fun f kf h => by cases h


theorem Ev_pcall {q : Nat → Pr} {f : FuncId} {ds : List D} {o : Out} (h : @Ev plainAsks q f ds o) : ∃ i, pcall (q i) i f ds = some o := by
  obtain ⟨N, h⟩ := h 0
  refine ⟨N, ?_⟩
  have := h N (Nat.le_refl _)
  dsimp only at this
  rw [@runQ_eq plainAsks] at this
  exact this

theorem rel_below {w w' : World} {L : Nat → Nat} (hL : ∀ b, w.heap.size ≤ b → L b = 0) (hb : RowKit.Below w.heap.size w w') : GI G0 w' (H0 L) ∧ Rel G0 (H0 L) w G0 w' (H0 L) := by
  refine ⟨GI.start fun b h => hL b (Nat.le_trans hb.size h), ?_⟩
  exact
    { os := hb.os, tape := hb.tape, output := hb.output, size := hb.size
      ext := ext_grow hb (fun _ _ => rfl) hL
      keep := fun b h _ => ⟨hb.block b h, rfl⟩
      bxs := fun d t h => by cases h
      ro := fun l h => rfl
      ga := fun _ _ _ _ => rfl
      bxMay := fun d t b h => by cases h
      gaMay := fun i b _ h => by cases h
      lpMay := fun l h => by cases h
      lpLen := Nat.le_refl _ }



theorem dig2_eq (n : Nat) (h : n < 100) : dig2 n = Lib.decDigits n := by
  unfold dig2
  by_cases h0 : n < 10
  · rw [Lib.decDigits, dif_pos h0, show Nat.blt n 10 = true by simpa [Nat.blt_eq] using h0]
  · rw [Lib.decDigits, dif_neg h0, Lib.decDigits, dif_pos (by omega), show Nat.blt n 10 = false by
      cases hb : Nat.blt n 10 with
      | false => rfl
      | true => exact absurd (by simpa [Nat.blt_eq] using hb) h0]
    rfl
theorem dig2_itoa (n : Int) (h0 : 0 ≤ n) (h : n < 100) : dig2 n.toNat = Lib.itoa n := by
  rw [dig2_eq _ (by omega), Lib.itoa, if_neg (by omega)]
theorem kItoa_eq (n : Int) (h0 : -9223372036854775808 ≤ n) (h1 : n ≤ 9223372036854775807) : kItoa [.int .i64 n] = some (.ret [.d (.str ⟨(Lib.itoa n).toArray⟩)]) := by
  unfold kItoa
  dsimp only
  cases hc : decide (0 ≤ n) && decide (n < 100) with
  | true =>
    simp only [Bool.and_eq_true, decide_eq_true_eq] at hc
    dsimp only
    rw [dig2_itoa n hc.1 hc.2]
  | false =>
    have : (decide (-9223372036854775808 ≤ n) && decide (n ≤ 9223372036854775807)) = true := by simp [h0, h1]
    dsimp only
    rw [this]
theorem itoa_ok : KSound Tryd.prog 73 kItoa := by
  intro ds out h w L vs hL hv htp
  unfold kItoa at h
  split at h
  case h_2 => cases h
  rename_i n
  simp only [RepVs, RepV] at hv
  obtain ⟨_, _, rfl, rfl, rfl⟩ := hv
  split at h
  · rename_i hn
    cases h
    simp only [Bool.and_eq_true, decide_eq_true_eq] at hn
    refine ⟨⟨_, _, Tryd.func73, rfl, by kernel_rfl⟩, callsIn_wide.2 ?_⟩
    have := Tryd.strconv_Itoa_small n.toNat (by omega) w
    rw [Int.toNat_of_nonneg hn.1] at this
    refine this.mono ?_
    rintro e w' ⟨rfl, rfl⟩
    obtain ⟨g1, g2⟩ := rel_below hL (RowKit.Below.refl w'.heap.size w')
    refine ⟨G0, H0 L, ⟨[_], rfl, ?_, ⟨(fun i sz es e => by cases e), trivial⟩, rfl, by simp [AV.oks, AV.ok]⟩, rfl, g1, g2⟩
    simp only [RepAs, RepA, RepV]
    rw [dig2_eq _ (by omega)]
    exact ⟨_, _, rfl, rfl, rfl⟩
  · split at h
    case h_2 => cases h
    rename_i hn
    cases h
    simp only [Bool.and_eq_true, decide_eq_true_eq] at hn
    refine ⟨⟨_, _, Tryd.func73, rfl, by kernel_rfl⟩, callsIn_wide.2 ?_⟩
    refine (Tryd.strconv_Itoa n hn.1 hn.2 w htp).mono ?_
    rintro e w' ⟨rfl, k, os, rfl⟩
    obtain ⟨g1, g2⟩ := rel_below hL (Lib.below_grow w.heap.size w (Nat.le_refl _) k os)
    refine ⟨G0, H0 L, ⟨[_], rfl, ?_, ⟨(fun i sz es e => by cases e), trivial⟩, rfl, by simp [AV.oks, AV.ok]⟩, rfl, g1, g2⟩
    simp only [RepAs, RepA, RepV]
    exact ⟨_, _, rfl, rfl, rfl⟩

theorem prok (m : Nat) : PrOk Tryd.prog (pr m) where
  mix := mixok
  T := tyok
  F := fok
  H := hok
  K := fun f kf h => by
    unfold pr kK at h
    dsimp only at h
    split at h
    · cases h; exact itoa_ok
    · cases h
  X := fun f x h => by
    unfold pr kX at h
    dsimp only at h
    split at h
    · cases h; exact writeS_ok
    · cases h; exact writeB_ok
    · cases h; exact string_ok
    · cases h
    all_goals cases h

/-- A law's function that ends in true, by its walk. -/
theorem law_calls {f : FuncId} {ds : List D} (h : @Ev plainAsks pr f ds (.ret [.d (.bool true)])) {w : World} {vs : List Value} (hv : RepVs w (LW w) ds vs) (htp : Tabs.p w) :
    Calls Tryd.prog f vs.toArray w fun e w' => e = .returned (.bool true) ∧ RowKit.Below w.heap.size w w' := by
  obtain ⟨i, hp⟩ := Ev_pcall h
  exact pcall_bool (prok i) hp (LW_lim w) hv htp
end Go.Proofs.YtehkgiofchmpaaaDoor
