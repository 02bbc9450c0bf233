/- The arguments read as data, from the form's reading: what all kinds share. -/
import Derived.Test.YtehkgiofchmpaaaDoorRows
import Derived.Test.YtehkgiofchmpaaaDoorAbsTop
import Derived.Test.YtehkgiofchmpaaaDoorAbsE
import Derived.WalkKit
import Derived.ProofKit
import Derived.OpenShut
import Derived.JoinedCond
import Derived.Carry
namespace Go.Proofs.YtehkgiofchmpaaaDoor
open Go Go.Abs Go.Abs.Asks Go.ChangeShapes Go.WideShapes Go.ChangeAt Go.RowKit
set_option linter.unusedVariables false
set_option linter.unusedSimpArgs false

section
variable {H : Type} {enc : TypeId × Value → H} {P : Program} {w : World}

/-- Cells that read qs data, each of one cell. -/
def RdC (w : World) (xs : List D) (cs : List Value) : Prop := RepVs w (LW w) xs cs ∧ ∀ u ∈ cs, u.oneCell' = true

theorem LW_cell {a : Addr} {v : Value} (h : w.cell? a = some v) : a.off < LW w a.block ∧ a = ⟨a.block, a.off, none⟩ := by
  obtain ⟨b, o, s⟩ := a
  unfold World.cell? at h
  unfold LW
  dsimp only at h ⊢
  split at h
  · rename_i c e g hb
    rw [hb]
    dsimp only
    cases s with
    | some _ => simp at h
    | none => exact ⟨(Array.getElem?_eq_some_iff.1 (by simpa using h)).1, rfl⟩
  · cases h

theorem add_none (b o m : Nat) : (⟨b, o, none⟩ : Addr).add m = ⟨b, o + m, none⟩ := by
  unfold Addr.add
  split
  · rename_i h; subst h; rfl
  · rfl
theorem add_back (a : Addr) {m j : Nat} (h : m ≤ j) : (a.add m).add (j - m) = a.add j := by
  obtain ⟨b, o, s⟩ := a
  by_cases h0 : m = 0
  · subst h0; unfold Addr.add; simp
  · by_cases h1 : j - m = 0
    · have : j = m := by omega
      subst this
      unfold Addr.add; simp
    · have : j ≠ 0 := by omega
      have e : o + m + (j - m) = o + j := by omega
      unfold Addr.add
      simp [h0, h1, this, e]

/-- A slice, element by element. -/
theorem rd_slice {α : Type} (f : α → List D) (bk : α → Nat) {t e : TypeId} {sz fuel : Nat} {cs : List Value} {x : DataW H × List MemPlace} (ht : P.underlying t = some (.slice e)) (hsz : P.cellsOf e = sz) (hpos : 1 ≤ sz)
    (E : ∀ n cs' y, n < fuel → DataW.trod enc P w 0 (fun _ => true) true n e cs' = some y → ∃ a : α, RdC w (f a) cs' ∧ bk a ≤ Rows.uptoBulk y.1)
    (h : DataW.trod enc P w 0 (fun _ => true) true fuel t cs = some x) :
    ∃ qs : List α, RdC w [.sl sz (qs.map f)] cs ∧ (qs.map bk).sum + 1 ≤ Rows.uptoBulk x.1 := by
  rcases DataW.trod_slice ht h with ⟨rfl, rfl⟩ | ⟨a, len, cap, elems, rest, n, hn, rfl, rfl, hb, hl, hm, hlen, hel, hsp, hns⟩
  · refine ⟨[], ⟨?_, ?_⟩, by simp [Rows.uptoBulk]⟩
    · simp only [RepVs, RepV]
      exact ⟨_, _, rfl, ⟨none, 0, 0, [], rfl, rfl, Nat.le_refl _, by simp, by simp [RepF], .inl rfl⟩, rfl⟩
    · intro u hu; simp at hu; subst hu; rfl
  · have key : ∀ k, k ≤ len → ∃ qs : List α, qs.length = k ∧ (qs.map bk).sum ≤ Rows.uptoBulkAll ((elems.take k).map (·.1)) ∧
        ∃ vs, RepF w (LW w) (qs.map f) vs ∧ (∀ e ∈ qs.map f, e.length = sz) ∧ ∀ j u, vs[j]? = some u → w.cell? (a.add j) = some u ∧ u.oneCell' = true := by
      intro k
      induction k with
      | zero => intro _; exact ⟨[], rfl, by simp [Rows.uptoBulkAll], [], by simp [RepF], by simp, by simp⟩
      | succ k ih =>
        intro hk
        obtain ⟨qs, h1, h2, vs, h3, h4, h5⟩ := ih (by omega)
        obtain ⟨y, hy⟩ : ∃ y, elems[k]? = some y := ⟨_, List.getElem?_eq_getElem (by omega)⟩
        have he := hel k (by omega)
        rw [hy, Option.bind_eq_some_iff] at he
        obtain ⟨cs', hc, hr⟩ := he
        obtain ⟨b, ⟨r1, r2⟩, r3⟩ := E n cs' y (by omega) hr
        obtain ⟨_, hcl, hcc⟩ := World.cells?_some hc
        rw [hsz] at hcl
        have hvl : vs.length = k * sz := by rw [h3.length h4, List.length_map, h1]
        refine ⟨qs ++ [b], by simp [h1], ?_, vs ++ cs', ?_, ?_, ?_⟩
        · rw [List.take_add_one, hy]
          simp only [Option.toList, List.map_append, List.map_cons, List.map_nil, List.sum_append, List.sum_cons, List.sum_nil]
          have app : ∀ (p q : List (DataW H)), Rows.uptoBulkAll (p ++ q) = Rows.uptoBulkAll p + Rows.uptoBulkAll q := by
            intro p q
            induction p with
            | nil => simp [Rows.uptoBulkAll]
            | cons d p ihp => simp only [List.cons_append, Rows.uptoBulkAll, ihp]; omega
          rw [app]
          simp only [Rows.uptoBulkAll]
          omega
        · rw [List.map_append]
          refine RepF.append h3 ?_
          simp only [List.map_cons, List.map_nil, RepF]
          exact ⟨cs', [], by simp, r1, rfl⟩
        · intro e' he'
          rw [List.map_append, List.mem_append] at he'
          rcases he' with he' | he'
          · exact h4 e' he'
          · simp at he'
            subst he'
            rw [← r1.length, hcl]
        · intro j u hj
          by_cases hjl : j < vs.length
          · rw [List.getElem?_append_left hjl] at hj
            exact h5 j u hj
          · rw [List.getElem?_append_right (by omega)] at hj
            have hlt := (List.getElem?_eq_some_iff.1 hj).1
            have := hcc (j - vs.length) (by rw [hsz, ← hcl]; exact hlt)
            refine ⟨?_, r2 u (List.mem_of_getElem? hj)⟩
            rw [hj, hsz] at this
            rw [← this]
            rw [← hvl, add_back a (Nat.le_of_not_lt hjl)]
    obtain ⟨qs, h1, h2, vs, h3, h4, h5⟩ := key len (Nat.le_refl _)
    have hvl : vs.length = len * sz := by rw [h3.length h4, List.length_map, h1]
    refine ⟨qs, ⟨?_, ?_⟩, ?_⟩
    · simp only [RepVs, RepV]
      refine ⟨_, _, rfl, ⟨some a, len, cap, vs, rfl, by simp [h1], hl, h4, h3, ?_⟩, rfl⟩
      by_cases h0 : len = 0
      · exact .inl h0
      · right
        have hlast : len * sz - 1 < vs.length := by rw [hvl]; have := Nat.mul_pos (Nat.pos_of_ne_zero h0) hpos; omega
        obtain ⟨u, hu⟩ : ∃ u, vs[len * sz - 1]? = some u := ⟨_, List.getElem?_eq_getElem hlast⟩
        obtain ⟨c1, _⟩ := h5 _ u hu
        obtain ⟨u0, hu0⟩ : ∃ u, vs[0]? = some u := ⟨_, List.getElem?_eq_getElem (by omega)⟩
        obtain ⟨c0, _⟩ := h5 _ u0 hu0
        rw [show a.add 0 = a by unfold Addr.add; simp] at c0
        obtain ⟨_, l2⟩ := LW_cell c0
        obtain ⟨b, o, s⟩ := a
        simp only [Addr.mk.injEq, true_and] at l2
        subst l2
        rw [add_none] at c1
        obtain ⟨l1, _⟩ := LW_cell c1
        dsimp only at l1
        refine ⟨b, o, rfl, by omega, ?_⟩
        intro j u hj
        have := h5 j u hj
        rwa [add_none] at this
    · intro u hu; simp at hu; subst hu; rfl
    · simp only [Rows.uptoBulk]
      rw [List.take_of_length_le (by omega)] at h2
      omega

theorem rd_int {t : TypeId} {k : IntKind} {fuel : Nat} {cs : List Value} {x : DataW H × List MemPlace} (ht : P.underlying t = some (.int k)) (h : DataW.trod enc P w 0 (fun _ => true) true fuel t cs = some x) :
    ∃ n : Int, RdC w [.int k n] cs ∧ 1 ≤ Rows.uptoBulk x.1 ∧ (Lit.int k n).wf = true := by
  obtain ⟨n, rfl, rfl, hw⟩ := DataW.trod_int ht h
  refine ⟨n, ⟨by simp only [RepVs, RepV]; exact ⟨_, _, rfl, rfl, rfl⟩, ?_⟩, by simp [Rows.uptoBulk], hw⟩
  intro u hu; simp at hu; subst hu; rfl

theorem rd_string {t : TypeId} {fuel : Nat} {cs : List Value} {x : DataW H × List MemPlace} (ht : P.underlying t = some .string) (h : DataW.trod enc P w 0 (fun _ => true) true fuel t cs = some x) :
    ∃ s : ByteArray, RdC w [.str s] cs ∧ s.size + 1 ≤ Rows.uptoBulk x.1 := by
  obtain ⟨s, rfl, rfl, hs⟩ := DataW.trod_string ht h
  refine ⟨s, ⟨by simp only [RepVs, RepV]; exact ⟨_, _, rfl, rfl, rfl⟩, ?_⟩, by simp only [Rows.uptoBulk]; exact Nat.le_refl _⟩
  intro u hu; simp at hu; subst hu; rfl

theorem RdC.append {xs ys : List D} {cs ds : List Value} (h : RdC w xs cs) (k : RdC w ys ds) : RdC w (xs ++ ys) (cs ++ ds) :=
  ⟨h.1.append k.1, fun u hu => (List.mem_append.1 hu).elim (h.2 u) (k.2 u)⟩

/-- A value, qs its cells read. -/
theorem RdC.one {x : D} {v : Value} (h : RdC w [x] v.cells.toList) (hv : ∀ cs, v ≠ .agg cs) : RepV w (LW w) x v := by
  obtain ⟨h, _⟩ := h
  have : v.cells = #[v] := by cases v <;> first | rfl | exact absurd rfl (hv _)
  rw [this] at h
  simp only [RepVs] at h
  obtain ⟨u, us, hu, h1, _⟩ := h
  simp at hu
  rw [hu.1]; exact h1
theorem RdC.agg {xs : List D} {cv : Array Value} (h : RdC w xs cv.toList) : RepV w (LW w) (.agg xs) (.agg cv) := by
  simp only [RepV]
  exact ⟨cv, rfl, h.1, h.2⟩

theorem sum_ones : ∀ vs : List Int, (vs.map fun _ => 1).sum = vs.length
  | [] => rfl
  | v :: vs => by simp only [List.map_cons, List.sum_cons, List.length_cons]; rw [sum_ones vs]; omega
end

set_option maxRecDepth 100000 in
/-- An argument that is a string. -/
theorem arg_string {H : Type} {enc : TypeId × Value → H} {w : World} {v : Value} {d : DataW H} {ps : List MemPlace} {base : Nat} (hval : Value.okWide Tryd.prog w .any base 9 v) (h : DataW.Trod enc Tryd.prog w 0 (fun _ => true) true 9 v d ps) :
    ∃ s : ByteArray, RepV w (LW w) (.str s) v ∧ s.size + 1 ≤ Rows.uptoBulk d := by
  obtain ⟨fuel, hf⟩ := h
  obtain ⟨s, r, b⟩ := rd_string Tryd.underlying9 hf
  obtain ⟨s', rfl⟩ := okWide_string Tryd.underlying9 hval
  exact ⟨s, r.one (fun cs e => by cases e), b⟩

/-- All arguments read behind the call as before. -/
theorem trodAll_stays {H : Type} {enc : TypeId × Value → H} {P : Program} (hl : laidOutB P = true) {W W' : World} (hb : Below W.heap.size W W') {sp : Nat → Bool} :
    ∀ (ts : List TypeId) (vs : List Value) (ds : List (DataW H)) (ps : List MemPlace), (∀ t ∈ ts, P.readableRec t = true ∧ t < P.types.size) → DataW.TrodAll enc P W 0 (fun _ => true) true ts vs ds ps →
      (∀ p ∈ ps, p.block < W.heap.size) → (∀ p ∈ ps, sp p.block = true) → DataW.TrodAll enc P W' 0 sp true ts vs ds ps
  | [], [], [], ps, _, h, _, _ => h
  | t :: ts, v :: vs, d :: ds, ps, hr, h, hlt, hs => by
    obtain ⟨p, q, h1, h2, rfl⟩ := h
    have hr0 := hr t (List.mem_cons_self ..)
    exact ⟨p, q, WideElems.Trod_stays hl hr0.1 hr0.2 h1 (fun x hx => hb.same (hlt x (List.mem_append_left _ hx))) (fun x hx => hs x (List.mem_append_left _ hx)),
      trodAll_stays hl hb ts vs ds q (fun t ht => hr t (List.mem_cons_of_mem _ ht)) h2 (fun x hx => hlt x (List.mem_append_right _ hx)) (fun x hx => hs x (List.mem_append_right _ hx)), rfl⟩
  | [], _ :: _, _, _, _, h, _, _ => h.elim
  | [], [], _ :: _, _, _, h, _, _ => h.elim
  | _ :: _, [], _, _, _, h, _, _ => h.elim
  | _ :: _, _ :: _, [], _, _, h, _, _ => h.elim

/-- A law that returned true and turned nothing that lay: what the statement asks of the world behind it. -/
theorem post_true {H : Type} {enc : TypeId × Value → H} {P : Program} (hl : laidOutB P = true) {f : Func} {s : ChangeSpec} {fresh handsOn again : Bool} {W W' : World} {args : Array Value} {ds : List (DataW H)} {before : List MemPlace} {tb : TypeId}
    (hb : P.underlying tb = some .bool) (hres : f.resultTypes = #[tb]) (hvars : s.vars = []) (hread : ∀ t ∈ f.params.toList, P.readableRec t = true ∧ t < P.types.size)
    (hs1 : (s.fn H (ds ++ [])).results = [.lit (.bool true)]) (hs2 : (s.fn H (ds ++ [])).args = ds) (hs3 : (s.fn H (ds ++ [])).vars = [])
    (hW : DataW.Whole enc P f.params.toList s.vars false W args.toList ds [] before) (hbelow : Below W.heap.size W W') :
    s.post enc P f false fresh handsOn again W args (.bool true) W' := by
  have hlt := hW.lt
  have hold : ∀ p ∈ before, (fun b => decide (b < W.heap.size)) p.block = true := fun p hp => by simpa using hlt p hp
  have hW' := hW
  obtain ⟨p, q, hA, hV, rfl, hz, _⟩ := hW
  rw [hvars] at hV
  obtain ⟨_, rfl⟩ := trodVars_none hV
  simp only [List.append_nil] at hlt hold hz hW'
  have hargs : ∀ sp : Nat → Bool, (∀ x ∈ p, sp x.block = true) → DataW.TrodAll enc P W' 0 sp true f.params.toList args.toList (s.fn H (ds ++ [])).args p := fun sp hsp => by
    rw [hs2]
    exact trodAll_stays hl hbelow _ _ _ _ hread hA hlt hsp
  have hresR : ∀ (b : Nat) (sp : Nat → Bool) (hd : Bool), DataW.TrodAll enc P W' b sp hd f.resultTypes.toList ((Value.bool true).resultList f.resultTypes.size) (s.fn H (ds ++ [])).results [] := by
    intro b sp hd
    rw [hres, hs1]
    exact trodAll_cons_mk (shut_bool hb _) trodAll_mk0
  have hvarsR : ∀ sp : Nat → Bool, DataW.TrodVars enc P W' sp s.vars (s.fn H (ds ++ [])).vars [] := by
    intro sp
    rw [hs3, hvars]
    rfl
  refine ⟨ds, [], p, [], p, [], hW', hresR _ _ _, hargs _ hold, hvarsR _, World.keptBut_mono (fun x hx => ⟨hx, .inr ?_⟩) (hbelow.frame (· ∈ p)), fun _ => ?_⟩
  · simpa using hx
  · refine ⟨ok_one hres rfl (okWide_bool_mk hb _), _, _, ([] ++ p) ++ [], ⟨[] ++ p, [], trodAll_append (hargs _ (fun _ _ => rfl)) (hresR _ _ _), hvarsR _, rfl, ?_, fun h => by cases h⟩, ?_⟩
    · intro b off hp
      have hp : MemPlace.cell b off ∈ p := by simpa using hp
      rw [hbelow.frozen (hlt _ hp)]
      exact hz b off hp
    · intro x hx _
      simpa using hx
end Go.Proofs.YtehkgiofchmpaaaDoor
