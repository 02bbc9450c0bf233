/- The arguments read as data, from the form's reading: what all kinds share. -/
import Derived.Test.YtehkgiofchmpaaaDoorRows
import Derived.Test.YtehkgiofchmpaaaDoorAbsKd
import Derived.Test.YtehkgiofchmpaaaDoorAbsKe
import Derived.Test.YtehkgiofchmpaaaDoorS22
import Derived.WalkKit
import Derived.ProofKit
import Derived.OpenShut
import Derived.JoinedCond
import Derived.Carry
namespace Go.Proofs.YtehkgiofchmpaaaDoor
open Go Go.Abs Go.Abs.Asks Go.ChangeShapes Go.WideShapes Go.ChangeAt Go.RowKit
set_option linter.unusedVariables false
set_option linter.unusedSimpArgs false

section
variable {H : Type} {enc : TypeId × Value → H} {P : Program} {w : World}

/-- Cells that read qs data, each of one cell. -/
def RdC (w : World) (xs : List D) (cs : List Value) : Prop := RepVs w (LW w) xs cs ∧ ∀ u ∈ cs, u.oneCell' = true

theorem LW_cell {a : Addr} {v : Value} (h : w.cell? a = some v) : a.off < LW w a.block ∧ a = ⟨a.block, a.off, none⟩ := by
  obtain ⟨b, o, s⟩ := a
  unfold World.cell? at h
  unfold LW
  dsimp only at h ⊢
  split at h
  · rename_i c e g hb
    rw [hb]
    dsimp only
    cases s with
    | some _ => simp at h
    | none => exact ⟨(Array.getElem?_eq_some_iff.1 (by simpa using h)).1, rfl⟩
  · cases h

theorem add_none (b o m : Nat) : (⟨b, o, none⟩ : Addr).add m = ⟨b, o + m, none⟩ := by
  unfold Addr.add
  split
  · rename_i h; subst h; rfl
  · rfl
theorem add_back (a : Addr) {m j : Nat} (h : m ≤ j) : (a.add m).add (j - m) = a.add j := by
  obtain ⟨b, o, s⟩ := a
  by_cases h0 : m = 0
  · subst h0; unfold Addr.add; simp
  · by_cases h1 : j - m = 0
    · have : j = m := by omega
      subst this
      unfold Addr.add; simp
    · have : j ≠ 0 := by omega
      have e : o + m + (j - m) = o + j := by omega
      unfold Addr.add
      simp [h0, h1, this, e]

/-- A slice, element by element. -/
theorem rd_slice {α : Type} (f : α → List D) (bk : α → Nat) {t e : TypeId} {sz fuel : Nat} {cs : List Value} {x : DataW H × List MemPlace} (ht : P.underlying t = some (.slice e)) (hsz : P.cellsOf e = sz) (hpos : 1 ≤ sz)
    (E : ∀ n cs' y, n < fuel → DataW.trod enc P w 0 (fun _ => true) true n e cs' = some y → ∃ a : α, RdC w (f a) cs' ∧ bk a ≤ Rows.uptoBulk y.1)
    (h : DataW.trod enc P w 0 (fun _ => true) true fuel t cs = some x) :
    ∃ qs : List α, RdC w [.sl sz (qs.map f)] cs ∧ (qs.map bk).sum + 1 ≤ Rows.uptoBulk x.1 := by
  rcases DataW.trod_slice ht h with ⟨rfl, rfl⟩ | ⟨a, len, cap, elems, rest, n, hn, rfl, rfl, hb, hl, hm, hlen, hel, hsp, hns⟩
  · refine ⟨[], ⟨?_, ?_⟩, by simp [Rows.uptoBulk]⟩
    · simp only [RepVs, RepV]
      exact ⟨_, _, rfl, ⟨none, 0, 0, [], rfl, rfl, Nat.le_refl _, by simp, by simp [RepF], .inl rfl⟩, rfl⟩
    · intro u hu; simp at hu; subst hu; rfl
  · have key : ∀ k, k ≤ len → ∃ qs : List α, qs.length = k ∧ (qs.map bk).sum ≤ Rows.uptoBulkAll ((elems.take k).map (·.1)) ∧
        ∃ vs, RepF w (LW w) (qs.map f) vs ∧ (∀ e ∈ qs.map f, e.length = sz) ∧ ∀ j u, vs[j]? = some u → w.cell? (a.add j) = some u ∧ u.oneCell' = true := by
      intro k
      induction k with
      | zero => intro _; exact ⟨[], rfl, by simp [Rows.uptoBulkAll], [], by simp [RepF], by simp, by simp⟩
      | succ k ih =>
        intro hk
        obtain ⟨qs, h1, h2, vs, h3, h4, h5⟩ := ih (by omega)
        obtain ⟨y, hy⟩ : ∃ y, elems[k]? = some y := ⟨_, List.getElem?_eq_getElem (by omega)⟩
        have he := hel k (by omega)
        rw [hy, Option.bind_eq_some_iff] at he
        obtain ⟨cs', hc, hr⟩ := he
        obtain ⟨b, ⟨r1, r2⟩, r3⟩ := E n cs' y (by omega) hr
        obtain ⟨_, hcl, hcc⟩ := World.cells?_some hc
        rw [hsz] at hcl
        have hvl : vs.length = k * sz := by rw [h3.length h4, List.length_map, h1]
        refine ⟨qs ++ [b], by simp [h1], ?_, vs ++ cs', ?_, ?_, ?_⟩
        · rw [List.take_add_one, hy]
          simp only [Option.toList, List.map_append, List.map_cons, List.map_nil, List.sum_append, List.sum_cons, List.sum_nil]
          have app : ∀ (p q : List (DataW H)), Rows.uptoBulkAll (p ++ q) = Rows.uptoBulkAll p + Rows.uptoBulkAll q := by
            intro p q
            induction p with
            | nil => simp [Rows.uptoBulkAll]
            | cons d p ihp => simp only [List.cons_append, Rows.uptoBulkAll, ihp]; omega
          rw [app]
          simp only [Rows.uptoBulkAll]
          omega
        · rw [List.map_append]
          refine RepF.append h3 ?_
          simp only [List.map_cons, List.map_nil, RepF]
          exact ⟨cs', [], by simp, r1, rfl⟩
        · intro e' he'
          rw [List.map_append, List.mem_append] at he'
          rcases he' with he' | he'
          · exact h4 e' he'
          · simp at he'
            subst he'
            rw [← r1.length, hcl]
        · intro j u hj
          by_cases hjl : j < vs.length
          · rw [List.getElem?_append_left hjl] at hj
            exact h5 j u hj
          · rw [List.getElem?_append_right (by omega)] at hj
            have hlt := (List.getElem?_eq_some_iff.1 hj).1
            have := hcc (j - vs.length) (by rw [hsz, ← hcl]; exact hlt)
            refine ⟨?_, r2 u (List.mem_of_getElem? hj)⟩
            rw [hj, hsz] at this
            rw [← this]
            rw [← hvl, add_back a (Nat.le_of_not_lt hjl)]
    obtain ⟨qs, h1, h2, vs, h3, h4, h5⟩ := key len (Nat.le_refl _)
    have hvl : vs.length = len * sz := by rw [h3.length h4, List.length_map, h1]
    refine ⟨qs, ⟨?_, ?_⟩, ?_⟩
    · simp only [RepVs, RepV]
      refine ⟨_, _, rfl, ⟨some a, len, cap, vs, rfl, by simp [h1], hl, h4, h3, ?_⟩, rfl⟩
      by_cases h0 : len = 0
      · exact .inl h0
      · right
        have hlast : len * sz - 1 < vs.length := by rw [hvl]; have := Nat.mul_pos (Nat.pos_of_ne_zero h0) hpos; omega
        obtain ⟨u, hu⟩ : ∃ u, vs[len * sz - 1]? = some u := ⟨_, List.getElem?_eq_getElem hlast⟩
        obtain ⟨c1, _⟩ := h5 _ u hu
        obtain ⟨u0, hu0⟩ : ∃ u, vs[0]? = some u := ⟨_, List.getElem?_eq_getElem (by omega)⟩
        obtain ⟨c0, _⟩ := h5 _ u0 hu0
        rw [show a.add 0 = a by unfold Addr.add; simp] at c0
        obtain ⟨_, l2⟩ := LW_cell c0
        obtain ⟨b, o, s⟩ := a
        simp only [Addr.mk.injEq, true_and] at l2
        subst l2
        rw [add_none] at c1
        obtain ⟨l1, _⟩ := LW_cell c1
        dsimp only at l1
        refine ⟨b, o, rfl, by omega, ?_⟩
        intro j u hj
        have := h5 j u hj
        rwa [add_none] at this
    · intro u hu; simp at hu; subst hu; rfl
    · simp only [Rows.uptoBulk]
      rw [List.take_of_length_le (by omega)] at h2
      omega

theorem rd_int {t : TypeId} {k : IntKind} {fuel : Nat} {cs : List Value} {x : DataW H × List MemPlace} (ht : P.underlying t = some (.int k)) (h : DataW.trod enc P w 0 (fun _ => true) true fuel t cs = some x) :
    ∃ n : Int, RdC w [.int k n] cs ∧ 1 ≤ Rows.uptoBulk x.1 ∧ (Lit.int k n).wf = true := by
  obtain ⟨n, rfl, rfl, hw⟩ := DataW.trod_int ht h
  refine ⟨n, ⟨by simp only [RepVs, RepV]; exact ⟨_, _, rfl, rfl, rfl⟩, ?_⟩, by simp [Rows.uptoBulk], hw⟩
  intro u hu; simp at hu; subst hu; rfl

theorem rd_string {t : TypeId} {fuel : Nat} {cs : List Value} {x : DataW H × List MemPlace} (ht : P.underlying t = some .string) (h : DataW.trod enc P w 0 (fun _ => true) true fuel t cs = some x) :
    ∃ s : ByteArray, RdC w [.str s] cs ∧ s.size + 1 ≤ Rows.uptoBulk x.1 := by
  obtain ⟨s, rfl, rfl, hs⟩ := DataW.trod_string ht h
  refine ⟨s, ⟨by simp only [RepVs, RepV]; exact ⟨_, _, rfl, rfl, rfl⟩, ?_⟩, by simp only [Rows.uptoBulk]; exact Nat.le_refl _⟩
  intro u hu; simp at hu; subst hu; rfl

theorem RdC.append {xs ys : List D} {cs ds : List Value} (h : RdC w xs cs) (k : RdC w ys ds) : RdC w (xs ++ ys) (cs ++ ds) :=
  ⟨h.1.append k.1, fun u hu => (List.mem_append.1 hu).elim (h.2 u) (k.2 u)⟩

/-- A value, qs its cells read. -/
theorem RdC.one {x : D} {v : Value} (h : RdC w [x] v.cells.toList) (hv : ∀ cs, v ≠ .agg cs) : RepV w (LW w) x v := by
  obtain ⟨h, _⟩ := h
  have : v.cells = #[v] := by cases v <;> first | rfl | exact absurd rfl (hv _)
  rw [this] at h
  simp only [RepVs] at h
  obtain ⟨u, us, hu, h1, _⟩ := h
  simp at hu
  rw [hu.1]; exact h1
theorem RdC.agg {xs : List D} {cv : Array Value} (h : RdC w xs cv.toList) : RepV w (LW w) (.agg xs) (.agg cv) := by
  simp only [RepV]
  exact ⟨cv, rfl, h.1, h.2⟩

theorem sum_ones : ∀ vs : List Int, (vs.map fun _ => 1).sum = vs.length
  | [] => rfl
  | v :: vs => by simp only [List.map_cons, List.sum_cons, List.length_cons]; rw [sum_ones vs]; omega
end

set_option maxRecDepth 100000 in
/-- An argument that is a string. -/
theorem arg_string {H : Type} {enc : TypeId × Value → H} {w : World} {v : Value} {d : DataW H} {ps : List MemPlace} {base : Nat} (hval : Value.okWide Tryd.prog w .any base 9 v) (h : DataW.Trod enc Tryd.prog w 0 (fun _ => true) true 9 v d ps) :
    ∃ s : ByteArray, RepV w (LW w) (.str s) v ∧ s.size + 1 ≤ Rows.uptoBulk d := by
  obtain ⟨fuel, hf⟩ := h
  obtain ⟨s, r, b⟩ := rd_string Tryd.underlying9 hf
  obtain ⟨s', rfl⟩ := okWide_string Tryd.underlying9 hval
  exact ⟨s, r.one (fun cs e => by cases e), b⟩

/-- All arguments read behind the call as before. -/
theorem trodAll_stays {H : Type} {enc : TypeId × Value → H} {P : Program} (hl : laidOutB P = true) {W W' : World} (hb : Below W.heap.size W W') {sp : Nat → Bool} :
    ∀ (ts : List TypeId) (vs : List Value) (ds : List (DataW H)) (ps : List MemPlace), (∀ t ∈ ts, P.readableRec t = true ∧ t < P.types.size) → DataW.TrodAll enc P W 0 (fun _ => true) true ts vs ds ps →
      (∀ p ∈ ps, p.block < W.heap.size) → (∀ p ∈ ps, sp p.block = true) → DataW.TrodAll enc P W' 0 sp true ts vs ds ps
  | [], [], [], ps, _, h, _, _ => h
  | t :: ts, v :: vs, d :: ds, ps, hr, h, hlt, hs => by
    obtain ⟨p, q, h1, h2, rfl⟩ := h
    have hr0 := hr t (List.mem_cons_self ..)
    exact ⟨p, q, WideElems.Trod_stays hl hr0.1 hr0.2 h1 (fun x hx => hb.same (hlt x (List.mem_append_left _ hx))) (fun x hx => hs x (List.mem_append_left _ hx)),
      trodAll_stays hl hb ts vs ds q (fun t ht => hr t (List.mem_cons_of_mem _ ht)) h2 (fun x hx => hlt x (List.mem_append_right _ hx)) (fun x hx => hs x (List.mem_append_right _ hx)), rfl⟩
  | [], _ :: _, _, _, _, h, _, _ => h.elim
  | [], [], _ :: _, _, _, h, _, _ => h.elim
  | _ :: _, [], _, _, _, h, _, _ => h.elim
  | _ :: _, _ :: _, [], _, _, h, _, _ => h.elim

/-- A law that returned true and turned nothing that lay: what the statement asks of the world behind it. -/
theorem post_true {H : Type} {enc : TypeId × Value → H} {P : Program} (hl : laidOutB P = true) {f : Func} {s : ChangeSpec} {fresh handsOn again : Bool} {W W' : World} {args : Array Value} {ds : List (DataW H)} {before : List MemPlace} {tb : TypeId}
    (hb : P.underlying tb = some .bool) (hres : f.resultTypes = #[tb]) (hvars : s.vars = []) (hread : ∀ t ∈ f.params.toList, P.readableRec t = true ∧ t < P.types.size)
    (hs1 : (s.fn H (ds ++ [])).results = [.lit (.bool true)]) (hs2 : (s.fn H (ds ++ [])).args = ds) (hs3 : (s.fn H (ds ++ [])).vars = [])
    (hW : DataW.Whole enc P f.params.toList s.vars false W args.toList ds [] before) (hbelow : Below W.heap.size W W') :
    s.post enc P f false fresh handsOn again W args (.bool true) W' := by
  have hlt := hW.lt
  have hold : ∀ p ∈ before, (fun b => decide (b < W.heap.size)) p.block = true := fun p hp => by simpa using hlt p hp
  have hW' := hW
  obtain ⟨p, q, hA, hV, rfl, hz, _⟩ := hW
  rw [hvars] at hV
  obtain ⟨_, rfl⟩ := trodVars_none hV
  simp only [List.append_nil] at hlt hold hz hW'
  have hargs : ∀ sp : Nat → Bool, (∀ x ∈ p, sp x.block = true) → DataW.TrodAll enc P W' 0 sp true f.params.toList args.toList (s.fn H (ds ++ [])).args p := fun sp hsp => by
    rw [hs2]
    exact trodAll_stays hl hbelow _ _ _ _ hread hA hlt hsp
  have hresR : ∀ (b : Nat) (sp : Nat → Bool) (hd : Bool), DataW.TrodAll enc P W' b sp hd f.resultTypes.toList ((Value.bool true).resultList f.resultTypes.size) (s.fn H (ds ++ [])).results [] := by
    intro b sp hd
    rw [hres, hs1]
    exact trodAll_cons_mk (shut_bool hb _) trodAll_mk0
  have hvarsR : ∀ sp : Nat → Bool, DataW.TrodVars enc P W' sp s.vars (s.fn H (ds ++ [])).vars [] := by
    intro sp
    rw [hs3, hvars]
    rfl
  refine ⟨ds, [], p, [], p, [], hW', hresR _ _ _, hargs _ hold, hvarsR _, World.keptBut_mono (fun x hx => ⟨hx, .inr ?_⟩) (hbelow.frame (· ∈ p)), fun _ => ?_⟩
  · simpa using hx
  · refine ⟨ok_one hres rfl (okWide_bool_mk hb _), _, _, ([] ++ p) ++ [], ⟨[] ++ p, [], trodAll_append (hargs _ (fun _ _ => rfl)) (hresR _ _ _), hvarsR _, rfl, ?_, fun h => by cases h⟩, ?_⟩
    · intro b off hp
      have hp : MemPlace.cell b off ∈ p := by simpa using hp
      rw [hbelow.frozen (hlt _ hp)]
      exact hz b off hp
    · intro x hx _
      simpa using hx

theorem sum_rbulks : ∀ rs : List Rf, (rs.map fun r => 1 + r.nm.size).sum = rbulks rs
  | [] => by simp [rbulks]
  | r :: rs => by simp only [List.map_cons, List.sum_cons, rbulks]; rw [sum_rbulks rs]
theorem sum_fbulks : ∀ ts : List Fm, (ts.map Fm.bulk).sum = fbulks ts
  | [] => by simp [fbulks]
  | t :: ts => by simp only [List.map_cons, List.sum_cons, fbulks]; rw [sum_fbulks ts]

section
variable {H : Type} {enc : TypeId × Value → H} {P : Program} {w : World}

theorem rd_ref {T S I : TypeId} {f0 f1 f2 : Field} (hT : P.underlying T = some (.struct #[f0, f1, f2])) (hS : P.underlying S = some .string) (hI : P.underlying I = some (.int .i64))
    (o0 : f0.offset = 0) (o1 : f1.offset = 1) (o2 : f2.offset = 2) (t0 : f0.type = I) (t1 : f1.type = I) (t2 : f2.type = S) (c : P.cellsOf T = 3) (cS : P.cellsOf S = 1) (cI : P.cellsOf I = 1)
    {fuel : Nat} {cs : List Value} {x : DataW H × List MemPlace} (h : DataW.trod enc P w 0 (fun _ => true) true fuel T cs = some x) : ∃ r : { r : Rf // r.rng }, RdC w [.int .i64 r.1.kind, .int .i64 r.1.idx, .str r.1.nm] cs ∧ 1 + r.1.nm.size ≤ Rows.uptoBulk x.1 := by
  obtain ⟨xs, n, rfl, rfl, hl, hx, hf⟩ := DataW.trod_struct hT h
  rw [c] at hl
  obtain ⟨v0, v1, v2, rfl⟩ : ∃ a b c, cs = [a, b, c] := by
    match cs, hl with
    | [a, b, c], _ => exact ⟨a, b, c, rfl⟩
  obtain ⟨x0, x1, x2, rfl⟩ : ∃ a b c, xs = [a, b, c] := by
    have hx : xs.length = 3 := hx
    match xs, hx with
    | [a, b, c], _ => exact ⟨a, b, c, rfl⟩
  have h0 := hf 0 f0 rfl
  have h1 := hf 1 f1 rfl
  have h2 := hf 2 f2 rfl
  rw [o0, t0, cI] at h0
  rw [o1, t1, cI] at h1
  rw [o2, t2, cS] at h2
  obtain ⟨a, r0, b0, _⟩ := rd_int hI h0
  obtain ⟨b, r1, b1, hw⟩ := rd_int hI h1
  obtain ⟨s, r2, b2⟩ := rd_string hS h2
  refine ⟨⟨⟨a, b, s⟩, by simp [Lit.wf, IntKind.has, IntKind.min, IntKind.max, IntKind.bits, IntKind.signed] at hw; unfold Rf.rng; dsimp only; omega⟩, r0.append (r1.append r2), ?_⟩
  simp only [List.map_cons, List.map_nil, Rows.uptoBulk, Rows.uptoBulkAll]
  omega

theorem rd_fm {T S I L K R : TypeId} {f0 f1 f2 f3 f4 f5 : Field} (hT : P.underlying T = some (.struct #[f0, f1, f2, f3, f4, f5])) (hS : P.underlying S = some .string) (hI : P.underlying I = some (.int .i64))
    (hL : P.underlying L = some (.slice R)) (hK : P.underlying K = some (.slice T)) (cR : P.cellsOf R = 3)
    (hR : ∀ (fuel : Nat) (cs : List Value) (x : DataW H × List MemPlace), DataW.trod enc P w 0 (fun _ => true) true fuel R cs = some x → ∃ r : { r : Rf // r.rng }, RdC w [.int .i64 r.1.kind, .int .i64 r.1.idx, .str r.1.nm] cs ∧ 1 + r.1.nm.size ≤ Rows.uptoBulk x.1)
    (o0 : f0.offset = 0) (o1 : f1.offset = 1) (o2 : f2.offset = 2) (o3 : f3.offset = 3) (o4 : f4.offset = 4) (o5 : f5.offset = 5) (t0 : f0.type = I) (t1 : f1.type = S) (t2 : f2.type = L) (t3 : f3.type = I) (t4 : f4.type = I) (t5 : f5.type = K)
    (c : P.cellsOf T = 6) (cS : P.cellsOf S = 1) (cI : P.cellsOf I = 1) (cL : P.cellsOf L = 1) (cK : P.cellsOf K = 1) :
    ∀ (N fuel : Nat), fuel < N → ∀ (cs : List Value) (x : DataW H × List MemPlace), DataW.trod enc P w 0 (fun _ => true) true fuel T cs = some x → ∃ t : { t : Fm // t.rng }, RdC w t.1.cells cs ∧ t.1.bulk ≤ Rows.uptoBulk x.1 := by
  intro N
  induction N with
  | zero => intro fuel h; exact absurd h (Nat.not_lt_zero _)
  | succ N ih =>
    intro fuel hfu cs x h
    obtain ⟨xs, n, rfl, rfl, hl, hx, hf⟩ := DataW.trod_struct hT h
    rw [c] at hl
    obtain ⟨v0, v1, v2, v3, v4, v5, rfl⟩ : ∃ a b c d e f, cs = [a, b, c, d, e, f] := by
      match cs, hl with
      | [a, b, c, d, e, f], _ => exact ⟨a, b, c, d, e, f, rfl⟩
    obtain ⟨x0, x1, x2, x3, x4, x5, rfl⟩ : ∃ a b c d e f, xs = [a, b, c, d, e, f] := by
      have hx : xs.length = 6 := hx
      match xs, hx with
      | [a, b, c, d, e, f], _ => exact ⟨a, b, c, d, e, f, rfl⟩
    have h0 := hf 0 f0 rfl
    have h1 := hf 1 f1 rfl
    have h2 := hf 2 f2 rfl
    have h3 := hf 3 f3 rfl
    have h4 := hf 4 f4 rfl
    have h5 := hf 5 f5 rfl
    rw [o0, t0, cI] at h0
    rw [o1, t1, cS] at h1
    rw [o2, t2, cL] at h2
    rw [o3, t3, cI] at h3
    rw [o4, t4, cI] at h4
    rw [o5, t5, cK] at h5
    obtain ⟨op, r0, b0, _⟩ := rd_int hI h0
    obtain ⟨nm, r1, b1⟩ := rd_string hS h1
    obtain ⟨rs, r2, b2⟩ := rd_slice (fun r : { r : Rf // r.rng } => [D.int .i64 r.1.kind, D.int .i64 r.1.idx, D.str r.1.nm]) (fun r => 1 + r.1.nm.size) hL cR (by omega) (fun n cs y _ hy => hR n cs y hy) h2
    obtain ⟨fr, r3, b3, _⟩ := rd_int hI h3
    obtain ⟨to, r4, b4, _⟩ := rd_int hI h4
    obtain ⟨ks, r5, b5⟩ := rd_slice (fun t : { t : Fm // t.rng } => t.1.cells) (fun t => t.1.bulk) hK c (by omega) (fun m cs y hm hy => ih m (by omega) cs y hy) h5
    refine ⟨⟨.node op nm (rs.map Subtype.val) fr to (ks.map Subtype.val), ?_⟩, ?_, ?_⟩
    · simp only [Fm.rng]
      refine ⟨fun r hr => ?_, frngs_of fun t ht => ?_⟩
      · obtain ⟨y, _, rfl⟩ := List.mem_map.1 hr
        exact y.2
      · obtain ⟨y, _, rfl⟩ := List.mem_map.1 ht
        exact y.2
    · simp only [Fm.cells]
      rw [fms_map]
      unfold refs
      rw [List.map_map, List.map_map]
      exact r0.append (r1.append (r2.append (r3.append (r4.append r5))))
    · have e2 : (rs.map fun r => 1 + r.1.nm.size).sum = rbulks (rs.map Subtype.val) := by rw [← sum_rbulks, List.map_map]; rfl
      have e5 : (ks.map fun t => t.1.bulk).sum = fbulks (ks.map Subtype.val) := by rw [← sum_fbulks, List.map_map]; rfl
      rw [e2] at b2
      rw [e5] at b5
      simp only [Fm.bulk, List.map_cons, List.map_nil, Rows.uptoBulk, Rows.uptoBulkAll]
      omega
end

theorem ref_rd {H : Type} {enc : TypeId × Value → H} {w : World} {fuel : Nat} {cs : List Value} {x : DataW H × List MemPlace} (h : DataW.trod enc Tryd.prog w 0 (fun _ => true) true fuel 40 cs = some x) :
    ∃ r : { r : Rf // r.rng }, RdC w [.int .i64 r.1.kind, .int .i64 r.1.idx, .str r.1.nm] cs ∧ 1 + r.1.nm.size ≤ Rows.uptoBulk x.1 :=
  rd_ref (T := 40) (S := 9) (I := 3) Tryd.underlying40 Tryd.underlying9 Tryd.underlying3 rfl rfl rfl rfl rfl rfl (by kernel_rfl) (by kernel_rfl) (by kernel_rfl) h
theorem fm_rd {H : Type} {enc : TypeId × Value → H} {w : World} {fuel : Nat} {cs : List Value} {x : DataW H × List MemPlace} (h : DataW.trod enc Tryd.prog w 0 (fun _ => true) true fuel 25 cs = some x) :
    ∃ t : { t : Fm // t.rng }, RdC w t.1.cells cs ∧ t.1.bulk ≤ Rows.uptoBulk x.1 :=
  rd_fm (T := 25) (S := 9) (I := 3) (L := 22) (K := 23) (R := 40) Tryd.underlying25 Tryd.underlying9 Tryd.underlying3 Tryd.underlying22 Tryd.underlying23 (by kernel_rfl) (fun _ _ _ hh => ref_rd hh) rfl rfl rfl rfl rfl rfl rfl rfl rfl rfl rfl rfl (by kernel_rfl) (by kernel_rfl) (by kernel_rfl) (by kernel_rfl) (by kernel_rfl) _ _ (Nat.lt_succ_self _) _ _ h

set_option maxRecDepth 100000 in
/-- An argument that is a formula. -/
theorem arg_fm {H : Type} {enc : TypeId × Value → H} {w : World} {v : Value} {d : DataW H} {ps : List MemPlace} {base : Nat} (hval : Value.okWide Tryd.prog w .any base 25 v) (h : DataW.Trod enc Tryd.prog w 0 (fun _ => true) true 25 v d ps) :
    ∃ t : Fm, RepV w (LW w) t.d v ∧ t.bulk ≤ Rows.uptoBulk d := by
  obtain ⟨fuel, hf⟩ := h
  obtain ⟨t, r, b⟩ := fm_rd hf
  obtain ⟨cs, rfl, _⟩ := okWide_struct Tryd.underlying25 hval
  rw [t.1.cells_eq] at r
  exact ⟨t.1, RdC.agg r, b⟩
set_option maxRecDepth 100000 in
/-- An argument that is a formula, its indices in range. -/
theorem arg_fmr {H : Type} {enc : TypeId × Value → H} {w : World} {v : Value} {d : DataW H} {ps : List MemPlace} {base : Nat} (hval : Value.okWide Tryd.prog w .any base 25 v) (h : DataW.Trod enc Tryd.prog w 0 (fun _ => true) true 25 v d ps) :
    ∃ t : Fm, RepV w (LW w) t.d v ∧ t.bulk ≤ Rows.uptoBulk d ∧ t.rng := by
  obtain ⟨fuel, hf⟩ := h
  obtain ⟨t, r, b⟩ := fm_rd hf
  obtain ⟨cs, rfl, _⟩ := okWide_struct Tryd.underlying25 hval
  rw [t.1.cells_eq] at r
  exact ⟨t.1, RdC.agg r, b, t.2⟩
set_option maxRecDepth 100000 in
/-- An argument that is a reference. -/
theorem arg_ref {H : Type} {enc : TypeId × Value → H} {w : World} {v : Value} {d : DataW H} {ps : List MemPlace} {base : Nat} (hval : Value.okWide Tryd.prog w .any base 40 v) (h : DataW.Trod enc Tryd.prog w 0 (fun _ => true) true 40 v d ps) :
    ∃ r : Rf, RepV w (LW w) r.d v ∧ 1 + r.nm.size ≤ Rows.uptoBulk d := by
  obtain ⟨fuel, hf⟩ := h
  obtain ⟨t, r, b⟩ := ref_rd hf
  obtain ⟨cs, rfl, _⟩ := okWide_struct Tryd.underlying40 hval
  exact ⟨t.1, RdC.agg r, b⟩
set_option maxRecDepth 100000 in
/-- An argument that is a number. -/
theorem arg_int {H : Type} {enc : TypeId × Value → H} {w : World} {v : Value} {d : DataW H} {ps : List MemPlace} {base : Nat} (hval : Value.okWide Tryd.prog w .any base 3 v) (h : DataW.Trod enc Tryd.prog w 0 (fun _ => true) true 3 v d ps) :
    ∃ n : Int, RepV w (LW w) (.int .i64 n) v ∧ (-(2 ^ 63) ≤ n ∧ n < 2 ^ 63) := by
  obtain ⟨fuel, hf⟩ := h
  obtain ⟨n, r, _, b⟩ := rd_int Tryd.underlying3 hf
  obtain ⟨n', rfl⟩ := okWide_int Tryd.underlying3 hval
  refine ⟨n, r.one (fun cs e => by cases e), ?_⟩
  simp [Lit.wf, IntKind.has, IntKind.min, IntKind.max, IntKind.bits, IntKind.signed] at b
  omega
end Go.Proofs.YtehkgiofchmpaaaDoor
