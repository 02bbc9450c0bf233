/- The order of formulas. No program. -/
import Derived.Test.YtehkgiofchmpaaaDoorS22
namespace Go.Abs
open Go
set_option linter.unusedVariables false
set_option linter.unusedSimpArgs false

def numC (x y : Int) : Int := if x < y then -1 else if y < x then 1 else 0
def textC (s t : ByteArray) : Int := if Op.bytesLess s.toList t.toList = true then -1 else if (s.toList == t.toList) = true then 0 else 1
def firstC : List Int → Int
  | [] => 0
  | x :: xs => if x = 0 then firstC xs else x
def refC (a b : Rf) : Int := firstC [numC a.kind b.kind, numC a.idx b.idx, textC a.nm b.nm]
def refsC : List Rf → List Rf → Int
  | a :: as, b :: bs => if refC a b = 0 then refsC as bs else refC a b
  | [], [] => 0
  | [], _ :: _ => -1
  | _ :: _, [] => 1
def nodeC (t u : Fm) : Int := firstC [numC t.op u.op, textC t.nm u.nm, refsC t.as u.as, numC t.fr u.fr, numC t.to u.to]
mutual
  def Fm.cmp : Fm → Fm → Int
    | .node o m a f t k, u => if nodeC (.node o m a f t k) u = 0 then cmps k u.ks else nodeC (.node o m a f t k) u
  def cmps : List Fm → List Fm → Int
    | x :: xs, y :: ys => if x.cmp y = 0 then cmps xs ys else x.cmp y
    | [], [] => 0
    | [], _ :: _ => -1
    | _ :: _, [] => 1
end
theorem Fm.cmp_eq (t u : Fm) : t.cmp u = if nodeC t u = 0 then cmps t.ks u.ks else nodeC t u := by
  cases t
  simp only [Fm.cmp, Fm.ks]
theorem numC_len {α β : Type} {xs : List α} {ys : List β} {i : Nat} (hx : i ≤ xs.length) (hy : i ≤ ys.length) : numC (xs.length : Int) (ys.length : Int) = numC ((xs.drop i).length : Int) ((ys.drop i).length : Int) := by
  unfold numC
  rw [List.length_drop, List.length_drop]
  repeat' split
  all_goals omega
theorem numC_self (x : Int) : numC x x = 0 := by unfold numC; simp
theorem refsC_end {as bs : List Rf} (h : as = [] ∨ bs = []) : refsC as bs = numC (as.length : Int) (bs.length : Int) := by
  cases as <;> cases bs <;> simp_all [refsC, numC] <;> omega
theorem cmps_end {as bs : List Fm} (h : as = [] ∨ bs = []) : cmps as bs = numC (as.length : Int) (bs.length : Int) := by
  cases as <;> cases bs <;> simp_all [cmps, numC] <;> omega
theorem refsC_cons (a b : Rf) (as bs : List Rf) : refsC (a :: as) (b :: bs) = if refC a b = 0 then refsC as bs else refC a b := by simp only [refsC]
theorem cmps_cons (a b : Fm) (as bs : List Fm) : cmps (a :: as) (b :: bs) = if a.cmp b = 0 then cmps as bs else a.cmp b := by simp only [cmps]

theorem bytesLess_self : ∀ l : List UInt8, Op.bytesLess l l = false
  | [] => by simp [Op.bytesLess]
  | c :: l => by simp [Op.bytesLess, bytesLess_self l]
theorem textC_self (s : ByteArray) : textC s s = 0 := by unfold textC; rw [bytesLess_self]; simp
theorem refC_self (r : Rf) : refC r r = 0 := by simp [refC, firstC, numC_self, textC_self]
theorem refsC_self : ∀ rs : List Rf, refsC rs rs = 0
  | [] => rfl
  | r :: rs => by rw [refsC_cons, refC_self, refsC_self rs]; simp
theorem nodeC_self (t : Fm) : nodeC t t = 0 := by simp [nodeC, firstC, numC_self, textC_self, refsC_self]
mutual
  theorem cmp_self : ∀ t : Fm, t.cmp t = 0
    | .node o m a f t k => by
      rw [Fm.cmp_eq, nodeC_self, if_pos rfl]
      exact cmps_self k
  theorem cmps_self : ∀ ts : List Fm, cmps ts ts = 0
    | [] => by simp [cmps]
    | t :: ts => by rw [cmps_cons, cmp_self t, if_pos rfl]; exact cmps_self ts
end

/-! References changed. -/
mutual
  def Fm.mapR (ch : Rf → Int → Rf) : Fm → Int → Fm
    | .node o m a f t k, n => .node o m (a.map fun r => ch r n) f t (mapRs ch k (if bindsB o then n + 1 else n))
  def mapRs (ch : Rf → Int → Rf) : List Fm → Int → List Fm
    | [], _ => []
    | t :: ts, n => t.mapR ch n :: mapRs ch ts n
end
theorem Fm.mapR_eq (ch : Rf → Int → Rf) (t : Fm) (n : Int) : t.mapR ch n = .node t.op t.nm (t.as.map fun r => ch r n) t.fr t.to (mapRs ch t.ks (under t n)) := by
  cases t
  unfold Fm.mapR under
  rfl
theorem mapRs_map (ch : Rf → Int → Rf) (n : Int) : ∀ ts : List Fm, mapRs ch ts n = ts.map fun t => t.mapR ch n
  | [] => by simp [mapRs]
  | t :: ts => by simp only [mapRs, List.map]; rw [mapRs_map ch n ts]
theorem mapRs_app (ch : Rf → Int → Rf) (n : Int) (ts us : List Fm) : mapRs ch (ts ++ us) n = mapRs ch ts n ++ mapRs ch us n := by simp [mapRs_map]
theorem mapRs_len (ch : Rf → Int → Rf) (n : Int) (ts : List Fm) : (mapRs ch ts n).length = ts.length := by simp [mapRs_map]
def Fm.mapD (ch : Rf → Int → Rf) (t : Fm) (n : Int) : D := .agg [.int .i64 t.op, .str t.nm, .sl 3 (refs (t.as.map fun r => ch r n)), .int .i64 t.fr, .int .i64 t.to, .sl 6 (fms (mapRs ch t.ks (under t n)))]
theorem mapR_d (ch : Rf → Int → Rf) (t : Fm) (n : Int) : (t.mapR ch n).d = t.mapD ch n := by rw [Fm.mapR_eq]; rfl
theorem mapR_cells (ch : Rf → Int → Rf) (t : Fm) (n : Int) : (t.mapR ch n).cells = [.int .i64 t.op, .str t.nm, .sl 3 (refs (t.as.map fun r => ch r n)), .int .i64 t.fr, .int .i64 t.to, .sl 6 (fms (mapRs ch t.ks (under t n)))] := by
  rw [Fm.mapR_eq, Fm.cells_eq]; rfl
theorem refs_snoc {rs : List Rf} {i : Nat} {r : Rf} (ch : Rf → Int → Rf) (n : Int) (h : rs[i]? = some r) : refs ((rs.take (i + 1)).map fun r => ch r n) = refs ((rs.take i).map fun r => ch r n) ++ [[.int .i64 (ch r n).kind, .int .i64 (ch r n).idx, .str (ch r n).nm]] := by
  rw [take_succ' h, List.map_append, refs_app]; rfl
theorem fms_snoc {ts : List Fm} {i : Nat} {t : Fm} (ch : Rf → Int → Rf) (n : Int) (h : ts[i]? = some t) : fms (mapRs ch (ts.take (i + 1)) n) = fms (mapRs ch (ts.take i) n) ++ [[.int .i64 t.op, .str t.nm, .sl 3 (refs (t.as.map fun r => ch r n)), .int .i64 t.fr, .int .i64 t.to, .sl 6 (fms (mapRs ch t.ks (under t n)))]] := by
  rw [take_succ' h, mapRs_app, fms_app]
  simp only [mapRs, fms, mapR_cells]

def shiftC (frm by_ : Int) (r : Rf) (n : Int) : Rf := if r.kind = 1 ∧ n ≤ r.idx ∧ frm ≤ IntKind.i64.wrap (r.idx - n) then { r with idx := IntKind.i64.wrap (r.idx + by_) } else r
def rshiftC (by_ : Int) (r : Rf) (m : Int) : Rf := if r.kind = 1 ∧ m ≤ r.idx then { r with idx := IntKind.i64.wrap (r.idx + by_) } else r
def substC (q : Rf) (r : Rf) (n : Int) : Rf := if r.kind = 1 ∧ n ≤ r.idx then (if n < r.idx then { r with idx := IntKind.i64.wrap (r.idx - 1) } else if q.kind = 1 then { q with idx := IntKind.i64.wrap (q.idx + n) } else q) else r
def zeroBox : Box := ⟨[.d (.int .i64 0), .d (.str ⟨#[]⟩), .d .nils, .d (.int .i64 0), .d (.int .i64 0), .d .nils], false, (0, 0)⟩
def outBox (t : Fm) (rs : List Rf) (ks : List Fm) : Box := ⟨[.d (.int .i64 t.op), .d (.str t.nm), .own (.box 1 7 2) 3 (refs rs), .d (.int .i64 t.fr), .d (.int .i64 t.to), .own (.box 1 7 5) 6 (fms ks)], false, (0, 0)⟩

/-! Shifts. -/
theorem refs_small {t : Fm} {v : Int} (h : fieldsOk t v = true) : ∀ r ∈ t.as, refOk r v = true := by
  intro r hr
  have hl : 0 < t.as.length := List.length_pos_of_mem hr
  unfold fieldsOk at h
  by_cases h3 : t.op = 3
  · simp [h3] at h
    exact h.2.1.1.1.1 r hr
  · simp [h3, hl] at h
theorem refOk_idx {r : Rf} {v : Int} (h : refOk r v = true) (hk : r.kind = 1) : 0 ≤ r.idx ∧ r.idx < v := by
  unfold refOk at h
  rw [if_pos hk] at h
  simp at h
  exact ⟨h.1.2, h.2⟩
theorem formeds_get : ∀ {ts : List Fm} {i : Nat} {t : Fm} {n : Int}, formeds ts n = true → ts[i]? = some t → t.formed n = true
  | x :: xs, 0, t, n, h, hi => by
    simp only [formeds, Bool.and_eq_true] at h
    simp at hi; subst hi; exact h.1
  | x :: xs, i + 1, t, n, h, hi => by
    simp only [formeds, Bool.and_eq_true] at h
    exact formeds_get h.2 (by simpa using hi)
theorem kid_depth {t x : Fm} {i : Nat} (hx : t.ks[i]? = some x) : x.depth + 1 ≤ t.depth := by
  have := fdepths_take hx
  have := fdepths_take_le t.ks (i + 1)
  have := t.depth_eq
  omega
theorem mapRs_congr {ch ch' : Rf → Int → Rf} {n n' : Int} {ts : List Fm} (h : ∀ (i : Nat) t, ts[i]? = some t → t.mapR ch n = t.mapR ch' n') : mapRs ch ts n = mapRs ch' ts n' := by
  rw [mapRs_map, mapRs_map]
  refine List.map_congr_left fun t ht => ?_
  obtain ⟨i, hi⟩ := List.getElem?_of_mem ht
  exact h i t hi

/-- The program's shift is the reference's. -/
theorem shift_same (by_ frm : Int) (hf : 0 ≤ frm) (hf2 : frm < 2 ^ 60) (t : Fm) : ∀ v n : Int, t.formed v = true → 0 ≤ n → n + t.depth < 2 ^ 60 → v + t.depth < 2 ^ 60 → t.mapR (shiftC frm by_) n = t.mapR (rshiftC by_) (frm + n) := by
  induction t using Fm.rec' with
  | _ t ih =>
    intro v n hv hn hd hd2
    rw [Fm.formed_eq, Bool.and_eq_true] at hv
    rw [Fm.mapR_eq, Fm.mapR_eq]
    congr 1
    · refine List.map_congr_left fun r hr => ?_
      have hr2 := refs_small hv.1 r hr
      unfold shiftC rshiftC
      by_cases hk : r.kind = 1
      · obtain ⟨i1, i2⟩ := refOk_idx hr2 hk
        rw [wrap_small (n := r.idx - n) (by omega) (by omega)]
        by_cases hc : frm + n ≤ r.idx
        · rw [if_pos ⟨hk, by omega, by omega⟩, if_pos ⟨hk, hc⟩]
        · rw [if_neg (by omega), if_neg (by omega)]
      · rw [if_neg (fun h => hk h.1), if_neg (fun h => hk h.1)]
    · have hu : under t (frm + n) = frm + under t n := by unfold under; split <;> omega
      have hu2 : under t n ≤ n + 1 ∧ 0 ≤ under t n := by unfold under; split <;> omega
      have hu3 : under t v ≤ v + 1 := by unfold under; split <;> omega
      rw [hu]
      refine mapRs_congr fun i x hx => ?_
      have := kid_depth hx
      exact ih i x hx (under t v) (under t n) (formeds_get hv.2 hx) hu2.2 (by omega) (by omega)

section
variable (o : Int) (m : ByteArray) (a : List Rf) (f e : Int) (k : List Fm)
theorem op_node : (Fm.node o m a f e k).op = o := rfl
theorem nm_node : (Fm.node o m a f e k).nm = m := rfl
theorem as_node : (Fm.node o m a f e k).as = a := rfl
theorem fr_node : (Fm.node o m a f e k).fr = f := rfl
theorem to_node : (Fm.node o m a f e k).to = e := rfl
theorem ks_node : (Fm.node o m a f e k).ks = k := rfl
end
/-! What change keeps. -/
theorem rwide_map {ch : Rf → Int → Rf} {n : Int} (h : ∀ r n, r.nm.size < 2 ^ 30 → (ch r n).nm.size < 2 ^ 30) : ∀ rs : List Rf, rwide rs < 2 ^ 30 → rwide (rs.map fun r => ch r n) < 2 ^ 30
  | [], _ => by simp [rwide]
  | r :: rs, hr => by
    simp only [rwide] at hr
    simp only [List.map_cons, rwide]
    have := h r n (by omega)
    have := rwide_map h (n := n) rs (by omega)
    omega
mutual
  theorem mapR_cnt (ch : Rf → Int → Rf) : ∀ (t : Fm) (n : Int), (t.mapR ch n).cnt = t.cnt
    | .node o m a f t k, n => by
      unfold Fm.mapR
      simp only [Fm.cnt, List.length_map]
      rw [mapRs_cnt ch k]
  theorem mapRs_cnt (ch : Rf → Int → Rf) : ∀ (ts : List Fm) (n : Int), cnts (mapRs ch ts n) = cnts ts
    | [], n => by simp [mapRs]
    | t :: ts, n => by simp only [mapRs, cnts]; rw [mapR_cnt ch t, mapRs_cnt ch ts]
  theorem mapR_wide {ch : Rf → Int → Rf} (h : ∀ r n, r.nm.size < 2 ^ 30 → (ch r n).nm.size < 2 ^ 30) : ∀ (t : Fm) (n : Int), t.wide < 2 ^ 30 → (t.mapR ch n).wide < 2 ^ 30
    | .node o m a f t k, n, hw => by
      unfold Fm.mapR
      simp only [Fm.wide] at hw ⊢
      have := rwide_map h (n := n) a (by omega)
      have := mapRs_wide h k (if bindsB o then n + 1 else n) (by omega)
      omega
  theorem mapRs_wide {ch : Rf → Int → Rf} (h : ∀ r n, r.nm.size < 2 ^ 30 → (ch r n).nm.size < 2 ^ 30) : ∀ (ts : List Fm) (n : Int), wides ts < 2 ^ 30 → wides (mapRs ch ts n) < 2 ^ 30
    | [], n, _ => by simp [mapRs, wides]
    | t :: ts, n, hw => by
      simp only [wides] at hw
      simp only [mapRs, wides]
      have := mapR_wide h t n (by omega)
      have := mapRs_wide h ts n (by omega)
      omega
  theorem mapR_size (ch : Rf → Int → Rf) : ∀ (t : Fm) (n : Int), (t.mapR ch n).size = t.size
    | .node o m a f t k, n => by
      unfold Fm.mapR
      simp only [Fm.size]
      rw [mapRs_size ch k]
  theorem mapRs_size (ch : Rf → Int → Rf) : ∀ (ts : List Fm) (n : Int), fsizes (mapRs ch ts n) = fsizes ts
    | [], n => by simp [mapRs]
    | t :: ts, n => by simp only [mapRs, fsizes]; rw [mapR_size ch t, mapRs_size ch ts]
  theorem mapR_depth (ch : Rf → Int → Rf) : ∀ (t : Fm) (n : Int), (t.mapR ch n).depth = t.depth
    | .node o m a f t k, n => by
      unfold Fm.mapR
      simp only [Fm.depth]
      rw [mapRs_depth ch k]
  theorem mapRs_depth (ch : Rf → Int → Rf) : ∀ (ts : List Fm) (n : Int), fdepths (mapRs ch ts n) = fdepths ts
    | [], n => by simp [mapRs]
    | t :: ts, n => by simp only [mapRs, fdepths]; rw [mapR_depth ch t, mapRs_depth ch ts]
end
theorem mapR_ok {ch : Rf → Int → Rf} (h : ∀ r n, r.nm.size < 2 ^ 30 → (ch r n).nm.size < 2 ^ 30) (t : Fm) (n : Int) (ht : t.ok) : (t.mapR ch n).ok :=
  ⟨by rw [mapR_cnt]; exact ht.1, mapR_wide h t n ht.2⟩
theorem substC_nm (q : Rf) (hq : q.nm.size < 2 ^ 30) (r : Rf) (n : Int) (hr : r.nm.size < 2 ^ 30) : (substC q r n).nm.size < 2 ^ 30 := by
  unfold substC; (repeat' split) <;> assumption
theorem fieldsOk_to {t : Fm} {v v' : Int} {as : List Rf} {ks : List Fm} (h : fieldsOk t v = true) (hl : as.length = t.as.length) (hk : ks.length = t.ks.length) (ha : as.all (refOk · v') = true) : fieldsOk (.node t.op t.nm as t.fr t.to ks) v' = true := by
  obtain ⟨o, m, a, f, e, k⟩ := t
  unfold fieldsOk at h ⊢
  simp only [Fm.op, Fm.fr, Fm.to, Fm.as, Fm.nm, Fm.ks] at h hl hk ⊢
  simp only [hl, hk, ha]
  by_cases h3 : o = 3
  · subst h3
    simp at h ⊢
    exact ⟨h.1, ⟨⟨h.2.1.1.1.2, of_decide_eq_true h.2.1.1.2⟩, of_decide_eq_true h.2.1.2⟩, h.2.2⟩
  · simp only [h3, if_false] at h ⊢
    exact h
theorem formed_map {ch : Rf → Int → Rf} {d : Int} (h : ∀ r v k, 0 ≤ k → k < 2 ^ 60 → v < 2 ^ 60 → k < v → refOk r v = true → refOk (ch r k) (v - d) = true) (t : Fm) : ∀ v k : Int, t.formed v = true → 0 ≤ k → k < v → k + t.depth < 2 ^ 60 → v + t.depth < 2 ^ 60 → (t.mapR ch k).formed (v - d) = true := by
  induction t using Fm.rec' with
  | _ t ih =>
    intro v k hv hk hkv hd hd2
    rw [Fm.formed_eq, Bool.and_eq_true] at hv
    have hr := refs_small hv.1
    have hd0 := t.depth_eq
    rw [Fm.mapR_eq, Fm.formed_eq, Bool.and_eq_true]
    constructor
    · refine fieldsOk_to hv.1 (by simp) (mapRs_len ..) ?_
      rw [List.all_eq_true]
      intro x hx
      obtain ⟨r, hr2, rfl⟩ := List.mem_map.1 hx
      exact h r v k hk (by omega) (by omega) hkv (hr r hr2)
    · have e1 : under t (v - d) = under t v - d := by unfold under; split <;> omega
      have hu1 : under (.node t.op t.nm (t.as.map fun r => ch r k) t.fr t.to (mapRs ch t.ks (under t k))) (v - d) = under t v - d := by
        rw [← e1]; rfl
      have hu2 : 0 ≤ under t k ∧ under t k ≤ k + 1 ∧ under t v ≤ v + 1 ∧ under t k < under t v := by unfold under; split <;> omega
      have hu3 : under t k = k ∧ under t v = v ∨ under t k = k + 1 ∧ under t v = v + 1 := by unfold under; split <;> omega
      rw [hu1]
      simp only [ks_node]
      have : ∀ (ts : List Fm), (∀ x ∈ ts, ∃ i : Nat, t.ks[i]? = some x) → formeds (mapRs ch ts (under t k)) (under t v - d) = true := by
        intro ts
        induction ts with
        | nil => intro _; simp [mapRs, formeds]
        | cons x xs ihx =>
          intro hx
          obtain ⟨i, hi⟩ := hx x (by simp)
          have := kid_depth hi
          simp only [mapRs, formeds, Bool.and_eq_true]
          exact ⟨ih i x hi _ _ (formeds_get hv.2 hi) hu2.1 hu2.2.2.2 (by omega) (by omega), ihx fun y hy => hx y (by simp [hy])⟩
      exact this t.ks fun x hx => List.getElem?_of_mem hx
theorem mapR_mapR {ch ch' ch'' : Rf → Int → Rf} (h : ∀ r v k, 0 ≤ k → k < 2 ^ 60 → v < 2 ^ 60 → refOk r v = true → ch' (ch r k) k = ch'' r k) (t : Fm) : ∀ v k : Int, t.formed v = true → 0 ≤ k → k + t.depth < 2 ^ 60 → v + t.depth < 2 ^ 60 → (t.mapR ch k).mapR ch' k = t.mapR ch'' k := by
  induction t using Fm.rec' with
  | _ t ih =>
    intro v k hv hk hd hd2
    rw [Fm.formed_eq, Bool.and_eq_true] at hv
    have hr := refs_small hv.1
    have hd0 := t.depth_eq
    have hu2 : 0 ≤ under t k ∧ under t k ≤ k + 1 ∧ under t v ≤ v + 1 := by unfold under; split <;> omega
    rw [Fm.mapR_eq ch'' t, Fm.mapR_eq ch t, Fm.mapR_eq]
    simp only [op_node, fr_node, to_node, as_node, nm_node, ks_node, List.map_map]
    have hu : ∀ as ks, under (.node t.op t.nm as t.fr t.to ks) k = under t k := fun as ks => rfl
    rw [hu]
    congr 1
    · refine List.map_congr_left fun r hr2 => ?_
      exact h r v k hk (by omega) (by omega) (hr r hr2)
    · rw [mapRs_map, mapRs_map, mapRs_map, List.map_map]
      refine List.map_congr_left fun x hx => ?_
      obtain ⟨i, hi⟩ := List.getElem?_of_mem hx
      have := kid_depth hi
      exact ih i x hi _ _ (formeds_get hv.2 hi) hu2.1 (by omega) (by omega)
mutual
  theorem mapR_id : ∀ (t : Fm) (n : Int), t.mapR (fun r _ => r) n = t
    | .node o m a f t k, n => by unfold Fm.mapR; rw [mapRs_id k]; simp
  theorem mapRs_id : ∀ (ts : List Fm) (n : Int), mapRs (fun r _ => r) ts n = ts
    | [], n => by simp [mapRs]
    | t :: ts, n => by simp only [mapRs]; rw [mapR_id t, mapRs_id ts]
end
theorem refOk_mono {r : Rf} {v w : Int} (h : refOk r v = true) (hk : r.kind ≠ 1) : refOk r w = true := by
  unfold refOk at h ⊢
  rw [if_neg hk] at h ⊢
  exact h
/-- A constant put in. -/
theorem close_ref {s : ByteArray} (hs : symB s = true) {r : Rf} {v k : Int} (hk : 0 ≤ k) (hk2 : k < 2 ^ 60) (hv : v < 2 ^ 60) (hkv : k < v) (h : refOk r v = true) : refOk (substC ⟨2, 0, s⟩ r k) (v - 1) = true := by
  by_cases hr : r.kind = 1
  · obtain ⟨h1, h2⟩ := refOk_idx h hr
    unfold substC
    by_cases h3 : k ≤ r.idx
    · rw [if_pos ⟨hr, h3⟩]
      by_cases h4 : k < r.idx
      · rw [if_pos h4, wrap_small (by omega) (by omega)]
        unfold refOk at h ⊢
        rw [if_pos hr] at h
        simp only [hr, if_true]
        simp at h ⊢
        exact ⟨⟨h.1.1, by omega⟩, by omega⟩
      · rw [if_neg h4, if_neg (fun h : (2 : Int) = 1 => by cases h)]
        unfold refOk
        simp [hs]
    · rw [if_neg (fun h => h3 h.2)]
      unfold refOk at h ⊢
      rw [if_pos hr] at h ⊢
      simp at h ⊢
      exact ⟨⟨h.1.1, by omega⟩, by omega⟩
  · unfold substC
    rw [if_neg (fun h => hr h.1)]
    exact refOk_mono h hr
theorem cancel_ref {q r : Rf} {v k : Int} (hk : 0 ≤ k) (hk2 : k < 2 ^ 60) (hv : v < 2 ^ 60) (h : refOk r v = true) : substC q (shiftC 0 1 r k) k = r := by
  by_cases hr : r.kind = 1
  · obtain ⟨h1, h2⟩ := refOk_idx h hr
    unfold shiftC
    rw [wrap_small (n := r.idx - k) (by omega) (by omega), wrap_small (n := r.idx + 1) (by omega) (by omega)]
    by_cases h3 : k ≤ r.idx
    · rw [if_pos ⟨hr, h3, by omega⟩]
      unfold substC
      dsimp only
      rw [if_pos ⟨hr, by omega⟩, if_pos (by omega), wrap_small (by omega) (by omega)]
      cases r
      simp
    · rw [if_neg (fun h => h3 h.2.1)]
      unfold substC
      rw [if_neg (fun h => h3 h.2)]
  · unfold shiftC
    rw [if_neg (fun h => hr h.1)]
    unfold substC
    rw [if_neg (fun h => hr h.1)]
theorem shiftC_lo {f b : Int} {r : Rf} {n : Int} (h : ¬ (r.kind = 1 ∧ n ≤ r.idx)) : shiftC f b r n = r := if_neg fun h' => h ⟨h'.1, h'.2.1⟩
theorem shiftC_hi {b : Int} {r : Rf} {n : Int} (h : r.kind = 1) (h0 : n ≤ r.idx) (hn : 0 ≤ n) (hi : r.idx < 2 ^ 62) : shiftC 0 b r n = ⟨r.kind, IntKind.i64.wrap (r.idx + b), r.nm⟩ := if_pos ⟨h, h0, by rw [wrap_small (by omega) (by omega)]; omega⟩
theorem add_ref {a b : Int} (ha : 0 ≤ a) (hb : 0 ≤ b) (ha2 : a < 2 ^ 59) (hb2 : b < 2 ^ 59) {r : Rf} {v k : Int} (hk : 0 ≤ k) (hk2 : k < 2 ^ 60) (hv : v < 2 ^ 60) (h : refOk r v = true) : shiftC 0 b (shiftC 0 a r k) k = shiftC 0 (a + b) r k := by
  by_cases hr : r.kind = 1 ∧ k ≤ r.idx
  · obtain ⟨h1, h2⟩ := refOk_idx h hr.1
    rw [shiftC_hi hr.1 hr.2 hk (by omega), shiftC_hi hr.1 hr.2 hk (by omega), wrap_small (n := r.idx + a) (by omega) (by omega), shiftC_hi (r := ⟨r.kind, r.idx + a, r.nm⟩) hr.1 (by dsimp only; omega) hk (by dsimp only; omega)]
    dsimp only
    rw [Int.add_assoc]
  · rw [shiftC_lo hr, shiftC_lo hr, shiftC_lo hr]
end Go.Abs
