/- The arguments read as data: formulas, references, numbers. -/
import Derived.Test.YtehkgiofchmpaaaDoorRdB
import Derived.Test.YtehkgiofchmpaaaDoorS22
namespace Go.Proofs.YtehkgiofchmpaaaDoor
open Go Go.Abs Go.Abs.Asks Go.ChangeShapes Go.WideShapes Go.ChangeAt Go.RowKit
set_option linter.unusedVariables false
set_option linter.unusedSimpArgs false

theorem sum_rbulks : ∀ rs : List Rf, (rs.map fun r => 1 + r.nm.size).sum = rbulks rs
  | [] => by simp [rbulks]
  | r :: rs => by simp only [List.map_cons, List.sum_cons, rbulks]; rw [sum_rbulks rs]
theorem sum_fbulks : ∀ ts : List Fm, (ts.map Fm.bulk).sum = fbulks ts
  | [] => by simp [fbulks]
  | t :: ts => by simp only [List.map_cons, List.sum_cons, fbulks]; rw [sum_fbulks ts]

section
variable {H : Type} {enc : TypeId × Value → H} {P : Program} {w : World}

theorem rd_ref {T S I : TypeId} {f0 f1 f2 : Field} (hT : P.underlying T = some (.struct #[f0, f1, f2])) (hS : P.underlying S = some .string) (hI : P.underlying I = some (.int .i64))
    (o0 : f0.offset = 0) (o1 : f1.offset = 1) (o2 : f2.offset = 2) (t0 : f0.type = I) (t1 : f1.type = I) (t2 : f2.type = S) (c : P.cellsOf T = 3) (cS : P.cellsOf S = 1) (cI : P.cellsOf I = 1)
    {fuel : Nat} {cs : List Value} {x : DataW H × List MemPlace} (h : DataW.trod enc P w 0 (fun _ => true) true fuel T cs = some x) : ∃ r : Rf, RdC w [.int .i64 r.kind, .int .i64 r.idx, .str r.nm] cs ∧ 1 + r.nm.size ≤ Rows.uptoBulk x.1 := by
  obtain ⟨xs, n, rfl, rfl, hl, hx, hf⟩ := DataW.trod_struct hT h
  rw [c] at hl
  obtain ⟨v0, v1, v2, rfl⟩ : ∃ a b c, cs = [a, b, c] := by
    match cs, hl with
    | [a, b, c], _ => exact ⟨a, b, c, rfl⟩
  obtain ⟨x0, x1, x2, rfl⟩ : ∃ a b c, xs = [a, b, c] := by
    have hx : xs.length = 3 := hx
    match xs, hx with
    | [a, b, c], _ => exact ⟨a, b, c, rfl⟩
  have h0 := hf 0 f0 rfl
  have h1 := hf 1 f1 rfl
  have h2 := hf 2 f2 rfl
  rw [o0, t0, cI] at h0
  rw [o1, t1, cI] at h1
  rw [o2, t2, cS] at h2
  obtain ⟨a, r0, b0, _⟩ := rd_int hI h0
  obtain ⟨b, r1, b1, _⟩ := rd_int hI h1
  obtain ⟨s, r2, b2⟩ := rd_string hS h2
  refine ⟨⟨a, b, s⟩, r0.append (r1.append r2), ?_⟩
  simp only [List.map_cons, List.map_nil, Rows.uptoBulk, Rows.uptoBulkAll]
  omega

theorem rd_fm {T S I L K R : TypeId} {f0 f1 f2 f3 f4 f5 : Field} (hT : P.underlying T = some (.struct #[f0, f1, f2, f3, f4, f5])) (hS : P.underlying S = some .string) (hI : P.underlying I = some (.int .i64))
    (hL : P.underlying L = some (.slice R)) (hK : P.underlying K = some (.slice T)) (cR : P.cellsOf R = 3)
    (hR : ∀ (fuel : Nat) (cs : List Value) (x : DataW H × List MemPlace), DataW.trod enc P w 0 (fun _ => true) true fuel R cs = some x → ∃ r : Rf, RdC w [.int .i64 r.kind, .int .i64 r.idx, .str r.nm] cs ∧ 1 + r.nm.size ≤ Rows.uptoBulk x.1)
    (o0 : f0.offset = 0) (o1 : f1.offset = 1) (o2 : f2.offset = 2) (o3 : f3.offset = 3) (o4 : f4.offset = 4) (o5 : f5.offset = 5) (t0 : f0.type = I) (t1 : f1.type = S) (t2 : f2.type = L) (t3 : f3.type = I) (t4 : f4.type = I) (t5 : f5.type = K)
    (c : P.cellsOf T = 6) (cS : P.cellsOf S = 1) (cI : P.cellsOf I = 1) (cL : P.cellsOf L = 1) (cK : P.cellsOf K = 1) :
    ∀ (N fuel : Nat), fuel < N → ∀ (cs : List Value) (x : DataW H × List MemPlace), DataW.trod enc P w 0 (fun _ => true) true fuel T cs = some x → ∃ t : Fm, RdC w t.cells cs ∧ t.bulk ≤ Rows.uptoBulk x.1 := by
  intro N
  induction N with
  | zero => intro fuel h; exact absurd h (Nat.not_lt_zero _)
  | succ N ih =>
    intro fuel hfu cs x h
    obtain ⟨xs, n, rfl, rfl, hl, hx, hf⟩ := DataW.trod_struct hT h
    rw [c] at hl
    obtain ⟨v0, v1, v2, v3, v4, v5, rfl⟩ : ∃ a b c d e f, cs = [a, b, c, d, e, f] := by
      match cs, hl with
      | [a, b, c, d, e, f], _ => exact ⟨a, b, c, d, e, f, rfl⟩
    obtain ⟨x0, x1, x2, x3, x4, x5, rfl⟩ : ∃ a b c d e f, xs = [a, b, c, d, e, f] := by
      have hx : xs.length = 6 := hx
      match xs, hx with
      | [a, b, c, d, e, f], _ => exact ⟨a, b, c, d, e, f, rfl⟩
    have h0 := hf 0 f0 rfl
    have h1 := hf 1 f1 rfl
    have h2 := hf 2 f2 rfl
    have h3 := hf 3 f3 rfl
    have h4 := hf 4 f4 rfl
    have h5 := hf 5 f5 rfl
    rw [o0, t0, cI] at h0
    rw [o1, t1, cS] at h1
    rw [o2, t2, cL] at h2
    rw [o3, t3, cI] at h3
    rw [o4, t4, cI] at h4
    rw [o5, t5, cK] at h5
    obtain ⟨op, r0, b0, _⟩ := rd_int hI h0
    obtain ⟨nm, r1, b1⟩ := rd_string hS h1
    obtain ⟨rs, r2, b2⟩ := rd_slice (fun r : Rf => [D.int .i64 r.kind, D.int .i64 r.idx, D.str r.nm]) (fun r => 1 + r.nm.size) hL cR (by omega) (fun n cs y _ hy => hR n cs y hy) h2
    obtain ⟨fr, r3, b3, _⟩ := rd_int hI h3
    obtain ⟨to, r4, b4, _⟩ := rd_int hI h4
    obtain ⟨ks, r5, b5⟩ := rd_slice Fm.cells Fm.bulk hK c (by omega) (fun m cs y hm hy => ih m (by omega) cs y hy) h5
    refine ⟨.node op nm rs fr to ks, ?_, ?_⟩
    · simp only [Fm.cells]
      rw [fms_map]
      exact r0.append (r1.append (r2.append (r3.append (r4.append r5))))
    · rw [sum_rbulks] at b2
      rw [sum_fbulks] at b5
      simp only [Fm.bulk, List.map_cons, List.map_nil, Rows.uptoBulk, Rows.uptoBulkAll]
      omega
end

theorem ref_rd {H : Type} {enc : TypeId × Value → H} {w : World} {fuel : Nat} {cs : List Value} {x : DataW H × List MemPlace} (h : DataW.trod enc Tryd.prog w 0 (fun _ => true) true fuel 40 cs = some x) :
    ∃ r : Rf, RdC w [.int .i64 r.kind, .int .i64 r.idx, .str r.nm] cs ∧ 1 + r.nm.size ≤ Rows.uptoBulk x.1 :=
  rd_ref (T := 40) (S := 9) (I := 3) Tryd.underlying40 Tryd.underlying9 Tryd.underlying3 rfl rfl rfl rfl rfl rfl (by kernel_rfl) (by kernel_rfl) (by kernel_rfl) h
theorem fm_rd {H : Type} {enc : TypeId × Value → H} {w : World} {fuel : Nat} {cs : List Value} {x : DataW H × List MemPlace} (h : DataW.trod enc Tryd.prog w 0 (fun _ => true) true fuel 25 cs = some x) :
    ∃ t : Fm, RdC w t.cells cs ∧ t.bulk ≤ Rows.uptoBulk x.1 :=
  rd_fm (T := 25) (S := 9) (I := 3) (L := 22) (K := 23) (R := 40) Tryd.underlying25 Tryd.underlying9 Tryd.underlying3 Tryd.underlying22 Tryd.underlying23 (by kernel_rfl) (fun _ _ _ hh => ref_rd hh) rfl rfl rfl rfl rfl rfl rfl rfl rfl rfl rfl rfl (by kernel_rfl) (by kernel_rfl) (by kernel_rfl) (by kernel_rfl) (by kernel_rfl) _ _ (Nat.lt_succ_self _) _ _ h

set_option maxRecDepth 100000 in
/-- An argument that is a formula. -/
theorem arg_fm {H : Type} {enc : TypeId × Value → H} {w : World} {v : Value} {d : DataW H} {ps : List MemPlace} {base : Nat} (hval : Value.okWide Tryd.prog w .any base 25 v) (h : DataW.Trod enc Tryd.prog w 0 (fun _ => true) true 25 v d ps) :
    ∃ t : Fm, RepV w (LW w) t.d v ∧ t.bulk ≤ Rows.uptoBulk d := by
  obtain ⟨fuel, hf⟩ := h
  obtain ⟨t, r, b⟩ := fm_rd hf
  obtain ⟨cs, rfl, _⟩ := okWide_struct Tryd.underlying25 hval
  rw [t.cells_eq] at r
  exact ⟨t, RdC.agg r, b⟩
set_option maxRecDepth 100000 in
/-- An argument that is a reference. -/
theorem arg_ref {H : Type} {enc : TypeId × Value → H} {w : World} {v : Value} {d : DataW H} {ps : List MemPlace} {base : Nat} (hval : Value.okWide Tryd.prog w .any base 40 v) (h : DataW.Trod enc Tryd.prog w 0 (fun _ => true) true 40 v d ps) :
    ∃ r : Rf, RepV w (LW w) r.d v ∧ 1 + r.nm.size ≤ Rows.uptoBulk d := by
  obtain ⟨fuel, hf⟩ := h
  obtain ⟨t, r, b⟩ := ref_rd hf
  obtain ⟨cs, rfl, _⟩ := okWide_struct Tryd.underlying40 hval
  exact ⟨t, RdC.agg r, b⟩
set_option maxRecDepth 100000 in
/-- An argument that is a number. -/
theorem arg_int {H : Type} {enc : TypeId × Value → H} {w : World} {v : Value} {d : DataW H} {ps : List MemPlace} {base : Nat} (hval : Value.okWide Tryd.prog w .any base 3 v) (h : DataW.Trod enc Tryd.prog w 0 (fun _ => true) true 3 v d ps) :
    ∃ n : Int, RepV w (LW w) (.int .i64 n) v ∧ (-(2 ^ 63) ≤ n ∧ n < 2 ^ 63) := by
  obtain ⟨fuel, hf⟩ := h
  obtain ⟨n, r, _, b⟩ := rd_int Tryd.underlying3 hf
  obtain ⟨n', rfl⟩ := okWide_int Tryd.underlying3 hval
  refine ⟨n, r.one (fun cs e => by cases e), ?_⟩
  simp [Lit.wf, IntKind.has, IntKind.min, IntKind.max, IntKind.bits, IntKind.signed] at b
  omega
end Go.Proofs.YtehkgiofchmpaaaDoor
