/- The order of formulas. No program. -/
import Derived.Test.YtehkgiofchmpaaaDoorS22
namespace Go.Abs
open Go
set_option linter.unusedVariables false
set_option linter.unusedSimpArgs false

def numC (x y : Int) : Int := if x < y then -1 else if y < x then 1 else 0
def textC (s t : ByteArray) : Int := if Op.bytesLess s.toList t.toList = true then -1 else if (s.toList == t.toList) = true then 0 else 1
def firstC : List Int → Int
  | [] => 0
  | x :: xs => if x = 0 then firstC xs else x
def refC (a b : Rf) : Int := firstC [numC a.kind b.kind, numC a.idx b.idx, textC a.nm b.nm]
def refsC : List Rf → List Rf → Int
  | a :: as, b :: bs => if refC a b = 0 then refsC as bs else refC a b
  | [], [] => 0
  | [], _ :: _ => -1
  | _ :: _, [] => 1
def nodeC (t u : Fm) : Int := firstC [numC t.op u.op, textC t.nm u.nm, refsC t.as u.as, numC t.fr u.fr, numC t.to u.to]
mutual
  def Fm.cmp : Fm → Fm → Int
    | .node o m a f t k, u => if nodeC (.node o m a f t k) u = 0 then cmps k u.ks else nodeC (.node o m a f t k) u
  def cmps : List Fm → List Fm → Int
    | x :: xs, y :: ys => if x.cmp y = 0 then cmps xs ys else x.cmp y
    | [], [] => 0
    | [], _ :: _ => -1
    | _ :: _, [] => 1
end
theorem Fm.cmp_eq (t u : Fm) : t.cmp u = if nodeC t u = 0 then cmps t.ks u.ks else nodeC t u := by
  cases t
  simp only [Fm.cmp, Fm.ks]
theorem numC_len {α β : Type} {xs : List α} {ys : List β} {i : Nat} (hx : i ≤ xs.length) (hy : i ≤ ys.length) : numC (xs.length : Int) (ys.length : Int) = numC ((xs.drop i).length : Int) ((ys.drop i).length : Int) := by
  unfold numC
  rw [List.length_drop, List.length_drop]
  repeat' split
  all_goals omega
theorem numC_self (x : Int) : numC x x = 0 := by unfold numC; simp
theorem refsC_end {as bs : List Rf} (h : as = [] ∨ bs = []) : refsC as bs = numC (as.length : Int) (bs.length : Int) := by
  cases as <;> cases bs <;> simp_all [refsC, numC] <;> omega
theorem cmps_end {as bs : List Fm} (h : as = [] ∨ bs = []) : cmps as bs = numC (as.length : Int) (bs.length : Int) := by
  cases as <;> cases bs <;> simp_all [cmps, numC] <;> omega
theorem refsC_cons (a b : Rf) (as bs : List Rf) : refsC (a :: as) (b :: bs) = if refC a b = 0 then refsC as bs else refC a b := by simp only [refsC]
theorem cmps_cons (a b : Fm) (as bs : List Fm) : cmps (a :: as) (b :: bs) = if a.cmp b = 0 then cmps as bs else a.cmp b := by simp only [cmps]

theorem bytesLess_self : ∀ l : List UInt8, Op.bytesLess l l = false
  | [] => by simp [Op.bytesLess]
  | c :: l => by simp [Op.bytesLess, bytesLess_self l]
theorem textC_self (s : ByteArray) : textC s s = 0 := by unfold textC; rw [bytesLess_self]; simp
theorem refC_self (r : Rf) : refC r r = 0 := by simp [refC, firstC, numC_self, textC_self]
theorem refsC_self : ∀ rs : List Rf, refsC rs rs = 0
  | [] => rfl
  | r :: rs => by rw [refsC_cons, refC_self, refsC_self rs]; simp
theorem nodeC_self (t : Fm) : nodeC t t = 0 := by simp [nodeC, firstC, numC_self, textC_self, refsC_self]
mutual
  theorem cmp_self : ∀ t : Fm, t.cmp t = 0
    | .node o m a f t k => by
      rw [Fm.cmp_eq, nodeC_self, if_pos rfl]
      exact cmps_self k
  theorem cmps_self : ∀ ts : List Fm, cmps ts ts = 0
    | [] => by simp [cmps]
    | t :: ts => by rw [cmps_cons, cmp_self t, if_pos rfl]; exact cmps_self ts
end

/-! References changed. -/
mutual
  def Fm.mapR (ch : Rf → Int → Rf) : Fm → Int → Fm
    | .node o m a f t k, n => .node o m (a.map fun r => ch r n) f t (mapRs ch k (if bindsB o then n + 1 else n))
  def mapRs (ch : Rf → Int → Rf) : List Fm → Int → List Fm
    | [], _ => []
    | t :: ts, n => t.mapR ch n :: mapRs ch ts n
end
theorem Fm.mapR_eq (ch : Rf → Int → Rf) (t : Fm) (n : Int) : t.mapR ch n = .node t.op t.nm (t.as.map fun r => ch r n) t.fr t.to (mapRs ch t.ks (under t n)) := by
  cases t
  unfold Fm.mapR under
  rfl
theorem mapRs_map (ch : Rf → Int → Rf) (n : Int) : ∀ ts : List Fm, mapRs ch ts n = ts.map fun t => t.mapR ch n
  | [] => by simp [mapRs]
  | t :: ts => by simp only [mapRs, List.map]; rw [mapRs_map ch n ts]
theorem mapRs_app (ch : Rf → Int → Rf) (n : Int) (ts us : List Fm) : mapRs ch (ts ++ us) n = mapRs ch ts n ++ mapRs ch us n := by simp [mapRs_map]
theorem mapRs_len (ch : Rf → Int → Rf) (n : Int) (ts : List Fm) : (mapRs ch ts n).length = ts.length := by simp [mapRs_map]
def Fm.mapD (ch : Rf → Int → Rf) (t : Fm) (n : Int) : D := .agg [.int .i64 t.op, .str t.nm, .sl 3 (refs (t.as.map fun r => ch r n)), .int .i64 t.fr, .int .i64 t.to, .sl 6 (fms (mapRs ch t.ks (under t n)))]
theorem mapR_d (ch : Rf → Int → Rf) (t : Fm) (n : Int) : (t.mapR ch n).d = t.mapD ch n := by rw [Fm.mapR_eq]; rfl
theorem mapR_cells (ch : Rf → Int → Rf) (t : Fm) (n : Int) : (t.mapR ch n).cells = [.int .i64 t.op, .str t.nm, .sl 3 (refs (t.as.map fun r => ch r n)), .int .i64 t.fr, .int .i64 t.to, .sl 6 (fms (mapRs ch t.ks (under t n)))] := by
  rw [Fm.mapR_eq, Fm.cells_eq]; rfl
theorem refs_snoc {rs : List Rf} {i : Nat} {r : Rf} (ch : Rf → Int → Rf) (n : Int) (h : rs[i]? = some r) : refs ((rs.take (i + 1)).map fun r => ch r n) = refs ((rs.take i).map fun r => ch r n) ++ [[.int .i64 (ch r n).kind, .int .i64 (ch r n).idx, .str (ch r n).nm]] := by
  rw [take_succ' h, List.map_append, refs_app]; rfl
theorem fms_snoc {ts : List Fm} {i : Nat} {t : Fm} (ch : Rf → Int → Rf) (n : Int) (h : ts[i]? = some t) : fms (mapRs ch (ts.take (i + 1)) n) = fms (mapRs ch (ts.take i) n) ++ [[.int .i64 t.op, .str t.nm, .sl 3 (refs (t.as.map fun r => ch r n)), .int .i64 t.fr, .int .i64 t.to, .sl 6 (fms (mapRs ch t.ks (under t n)))]] := by
  rw [take_succ' h, mapRs_app, fms_app]
  simp only [mapRs, fms, mapR_cells]

def shiftC (frm by_ : Int) (r : Rf) (n : Int) : Rf := if r.kind = 1 ∧ n ≤ r.idx ∧ frm ≤ IntKind.i64.wrap (r.idx - n) then { r with idx := IntKind.i64.wrap (r.idx + by_) } else r
def rshiftC (by_ : Int) (r : Rf) (m : Int) : Rf := if r.kind = 1 ∧ m ≤ r.idx then { r with idx := IntKind.i64.wrap (r.idx + by_) } else r
def substC (q : Rf) (r : Rf) (n : Int) : Rf := if r.kind = 1 ∧ n ≤ r.idx then (if n < r.idx then { r with idx := IntKind.i64.wrap (r.idx - 1) } else if q.kind = 1 then { q with idx := IntKind.i64.wrap (q.idx + n) } else q) else r
def zeroBox : Box := ⟨[.d (.int .i64 0), .d (.str ⟨#[]⟩), .d .nils, .d (.int .i64 0), .d (.int .i64 0), .d .nils], false, (0, 0)⟩
def outBox (t : Fm) (rs : List Rf) (ks : List Fm) : Box := ⟨[.d (.int .i64 t.op), .d (.str t.nm), .own (.box 1 7 2) 3 (refs rs), .d (.int .i64 t.fr), .d (.int .i64 t.to), .own (.box 1 7 5) 6 (fms ks)], false, (0, 0)⟩

/-! Shifts. -/
theorem refs_small {t : Fm} {v : Int} (h : fieldsOk t v = true) : ∀ r ∈ t.as, refOk r v = true := by
  intro r hr
  have hl : 0 < t.as.length := List.length_pos_of_mem hr
  unfold fieldsOk at h
  by_cases h3 : t.op = 3
  · simp [h3] at h
    exact h.2.1.1.1.1 r hr
  · simp [h3, hl] at h
theorem refOk_idx {r : Rf} {v : Int} (h : refOk r v = true) (hk : r.kind = 1) : 0 ≤ r.idx ∧ r.idx < v := by
  unfold refOk at h
  rw [if_pos hk] at h
  simp at h
  exact ⟨h.1.2, h.2⟩
theorem formeds_get : ∀ {ts : List Fm} {i : Nat} {t : Fm} {n : Int}, formeds ts n = true → ts[i]? = some t → t.formed n = true
  | x :: xs, 0, t, n, h, hi => by
    simp only [formeds, Bool.and_eq_true] at h
    simp at hi; subst hi; exact h.1
  | x :: xs, i + 1, t, n, h, hi => by
    simp only [formeds, Bool.and_eq_true] at h
    exact formeds_get h.2 (by simpa using hi)
theorem kid_depth {t x : Fm} {i : Nat} (hx : t.ks[i]? = some x) : x.depth + 1 ≤ t.depth := by
  have := fdepths_take hx
  have := fdepths_take_le t.ks (i + 1)
  have := t.depth_eq
  omega
theorem mapRs_congr {ch ch' : Rf → Int → Rf} {n n' : Int} {ts : List Fm} (h : ∀ (i : Nat) t, ts[i]? = some t → t.mapR ch n = t.mapR ch' n') : mapRs ch ts n = mapRs ch' ts n' := by
  rw [mapRs_map, mapRs_map]
  refine List.map_congr_left fun t ht => ?_
  obtain ⟨i, hi⟩ := List.getElem?_of_mem ht
  exact h i t hi

/-- The program's shift is the reference's. -/
theorem shift_same (by_ frm : Int) (hf : 0 ≤ frm) (hf2 : frm < 2 ^ 60) (t : Fm) : ∀ v n : Int, t.formed v = true → 0 ≤ n → n + t.depth < 2 ^ 60 → v + t.depth < 2 ^ 60 → t.mapR (shiftC frm by_) n = t.mapR (rshiftC by_) (frm + n) := by
  induction t using Fm.rec' with
  | _ t ih =>
    intro v n hv hn hd hd2
    rw [Fm.formed_eq, Bool.and_eq_true] at hv
    rw [Fm.mapR_eq, Fm.mapR_eq]
    congr 1
    · refine List.map_congr_left fun r hr => ?_
      have hr2 := refs_small hv.1 r hr
      unfold shiftC rshiftC
      by_cases hk : r.kind = 1
      · obtain ⟨i1, i2⟩ := refOk_idx hr2 hk
        rw [wrap_small (n := r.idx - n) (by omega) (by omega)]
        by_cases hc : frm + n ≤ r.idx
        · rw [if_pos ⟨hk, by omega, by omega⟩, if_pos ⟨hk, hc⟩]
        · rw [if_neg (by omega), if_neg (by omega)]
      · rw [if_neg (fun h => hk h.1), if_neg (fun h => hk h.1)]
    · have hu : under t (frm + n) = frm + under t n := by unfold under; split <;> omega
      have hu2 : under t n ≤ n + 1 ∧ 0 ≤ under t n := by unfold under; split <;> omega
      have hu3 : under t v ≤ v + 1 := by unfold under; split <;> omega
      rw [hu]
      refine mapRs_congr fun i x hx => ?_
      have := kid_depth hx
      exact ih i x hx (under t v) (under t n) (formeds_get hv.2 hx) hu2.2 (by omega) (by omega)
end Go.Abs
