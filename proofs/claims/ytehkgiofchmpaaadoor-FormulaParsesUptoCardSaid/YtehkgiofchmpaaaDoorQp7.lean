/- What the claim rests on, part 7. -/
import Derived.Test.YtehkgiofchmpaaaDoorQp6
namespace Go.Proofs.YtehkgiofchmpaaaDoor
open Go Go.Abs Go.Abs.Asks
set_option linter.unusedVariables false
set_option linter.unusedSimpArgs false
set_option linter.unusedSectionVars false
def restS (F : Nat) (d : Int) : Nat → Bool → List UInt8 → Rd (List Fm)
 | 0, _, l => mapP (fun _ => []) (litS [41] l)
 | m + 1, first, l => thenP (match first with
  | true => .ok () 0
  | false => litS [44, 32] l) (fun _ l => thenP (fmS F d l) (fun f l => mapP (fun fs => f :: fs) (restS F d m false l)) l) l
theorem then_zero {α : Type} (x : Rd α) (f : Unit → List UInt8 → Rd α) (l : List UInt8) : thenP (.ok () 0) f l = f () l := by
 rw [thenOk rfl, up_zero, List.drop_zero]
theorem rest_true (F : Nat) (d : Int) (m : Nat) (l : List UInt8) (p : Nat) : restS F d (m + 1) true (l.drop p) = (thenP (fmS F d (l.drop (p + 0))) (fun f l => mapP (fun fs => f :: fs) (restS F d m false l)) (l.drop (p + 0))).up 0 := by
 rw [up_zero]; exact then_zero (.no 0) _ _
theorem rest_false (F : Nat) (d : Int) (m : Nat) (l : List UInt8) : restS F d (m + 1) false l = thenP (litS [44, 32] l) (fun _ l => thenP (fmS F d l) (fun f l => mapP (fun fs => f :: fs) (restS F d m false l)) l) l := by
 simp only [restS]
theorem map_map' {α β γ : Type} (f : α → β) (g : β → γ) (x : Rd α) : mapP g (mapP f x) = mapP (fun v => g (f v)) x := by cases x <;> rfl
theorem map_up {α β : Type} (f : α → β) (x : Rd α) (k : Nat) : mapP f (x.up k) = (mapP f x).up k := by cases x <;> rfl
theorem body_rest (F : Nat) (d op : Int) (nm : ByteArray) (a b : Int) (k : Nat) (l : List UInt8) (hk : k = 1 ∨ k = 2) :
  bodyS (F + 1) d op nm a b k l = thenP (litS [40] l) (fun _ l => mapP (fun ks => Fm.node op nm [] a b ks) (restS F d k true l)) l := by
 unfold bodyS
 congr 1
 funext _ l
 congr 1
 rcases hk with rfl | rfl
 ·show thenP (fmS F d l) (fun f l => mapP (fun _ => [f]) (litS [41] l)) l = _
  simp only [restS]
  rw [then_zero (.no 0)]
  congr 1
  funext f l
  rw [map_map']
 ·show thenP (fmS F d l) (fun f l => thenP (litS [44, 32] l) (fun _ l => thenP (fmS F d l) (fun g l => mapP (fun _ => [f, g]) (litS [41] l)) l) l) l = _
  simp only [restS]
  rw [then_zero (.no 0)]
  congr 1
  funext f l
  cases litS [44, 32] l with
  | no n => rfl
  | ok u n =>
   rw [thenOk rfl, thenOk rfl, map_up]
   congr 1
   cases fmS F d (l.drop n) with
   | no m => rfl
   | ok g m =>
    rw [thenOk rfl, thenOk rfl, map_up]
    congr 1
    rw [map_map', map_map']
theorem items_id (x : Rd (List Fm)) : mapP (fun fs => [] ++ fs) x = x := by cases x <;> rfl
theorem items_succ (F : Nat) (d : Int) (l : List UInt8) : itemsS (F + 1) d l = thenP (fmS F d l) (fun f l => if hd l ≠ 44 then mapP (fun _ => [f]) (litS [41] l) else thenP (litS [44, 32] l) (fun _ l => mapP (fun fs => f :: fs) (itemsS F d l)) l) l := by simp only [itemsS]
theorem agree_self {l : List UInt8} {n : Nat} (h : n ≤ l.length) : agree l l n := ⟨h, rfl, .inl rfl⟩
theorem items_fuel {F G : Nat} {d : Int} {l : List UInt8} (h1 : 4 * l.length + 1 < F) (h2 : 4 * l.length + 1 < G) : itemsS F d l = itemsS G d l := (fm_loc G).2.2 F d l l h2 h1 (agree_self ((fm_len G).2.2 d l).1)
theorem fms_one (zs : List Fm) (v : Fm) : fms (zs ++ [v]) = fms zs ++ [[.int .i64 v.op, .str v.nm, .sl 3 (refs v.as), .int .i64 v.fr, .int .i64 v.to, .sl 6 (fms v.ks)]] := by
 rw [fms_app]; simp only [fms, Fm.cells_eq]
variable [Asks]
def FmT (F : Nat) : Prop := ∀ (s : ByteArray) (hs : s.size < 2 ^ 30) (a : Nat) (ha : a ≤ s.size) (d : Int) (hd0 : 0 ≤ d) (hd1 : d + (s.size - a : Nat) < 2 ^ 40) (hF : 4 * (s.size - a) < F) (c : Nat) (K : Nat → Out → G → Option Out) (r : Out)
  (hok : ∀ v n, fmS F d (s.data.toList.drop a) = .ok v n → Evx (fun i => K i (.ret [.d v.d]) ⟨tabB (pB s (a + n)), 2, []⟩) r)
  (hno : ∀ n, fmS F d (s.data.toList.drop a) = .no n → Evx (fun i => K i (.pan (wrongD (a + n))) ⟨tabB (pB s (a + n)), 2, []⟩) r),
  Evx (fun i => runQ (pr i) (i - c) Out (.fn (.func 43)) [.ptr 2 9 0, .d (.int .i64 d)] ⟨tabB (pB s a), 2, []⟩ (K i)) r
def LsT (F : Nat) : Prop := ∀ (s : ByteArray) (hs : s.size < 2 ^ 30) (a : Nat) (ha : a ≤ s.size) (d : Int) (hd0 : 0 ≤ d) (hd1 : d + (s.size - a : Nat) < 2 ^ 40) (hF : 4 * (s.size - a) + 1 < F) (c : Nat) (K : Nat → Out → G → Option Out) (r : Out)
  (hnil : hd (s.data.toList.drop a) = 41 → Evx (fun i => K i (.ret [.d .nils]) ⟨tabB (pB s (a + 1)), 2, []⟩) r)
  (hok : ∀ v n, hd (s.data.toList.drop a) ≠ 41 → itemsS F d (s.data.toList.drop a) = .ok v n → Evx (fun i => K i (.ret [.own (.res 0) 6 (fms v)]) ⟨tabB (pB s (a + n)), 2, []⟩) r)
  (hno : ∀ n, hd (s.data.toList.drop a) ≠ 41 → itemsS F d (s.data.toList.drop a) = .no n → Evx (fun i => K i (.pan (wrongD (a + n))) ⟨tabB (pB s (a + n)), 2, []⟩) r),
  Evx (fun i => runQ (pr i) (i - c) Out (.fn (.func 82)) [.ptr 2 9 0, .d (.int .i64 d)] ⟨tabB (pB s a), 2, []⟩ (K i)) r
theorem listE (F : Nat) (ih : ∀ G, G < F → FmT G) : LsT F := by
 intro s hs a ha d hd0 hd1 hF c K r hnil hok hno
 apply Evx.enter; (conv=>arg 1;ext i;whnf)
 refine Evx.cq ([.ptr 2 9 0]) (pB s a) 2 ?_
 refine peekE s a ha ?_
 (conv=>arg 1;ext i;whnf)
 (refine Evx.bool (fun h => ?_) (fun h => ?_) <;> (try simp only [bbs] at h) <;> (first | (exfalso; omega) | exact absurd trivial h | (conv=>arg 1;ext i;whnf)))
 ·refine Evx.int (n' := ((a + 1 : Nat) : Int)) (by (try dsimp only); rw [wrap_small] <;> omega) ?_
  (conv=>arg 1;ext i;whnf)
  exact Evx.fq ((hnil (by omega)))
 ·have h41 : hd (s.data.toList.drop a) ≠ 41 := by omega
  have hok := fun v n h => hok v n h41 h
  have hno := fun n h => hno n h41 h
  obtain ⟨F', rfl⟩ : ∃ G, F = G + 1 := ⟨F - 1, by omega⟩
  refine Evx.loopB hint82 5 (α := { p : List Fm × Nat // a + p.2 ≤ s.size ∧ p.1.length ≤ p.2 ∧ itemsS (F' + 1) d (s.data.toList.drop a) = (mapP (fun fs => p.1 ++ fs) (itemsS (F' + 1) d (s.data.toList.drop (a + p.2)))).up p.2 }) (fun p => [some (.ptr 2 9 0), some (.d (.int .i64 d)), some (.own (.tmp 3 5 0) 6 (fms p.1.1))]) (fun _ => []) (fun p => pB s (a + p.1.2)) 3 [] (fun p => s.size - (a + p.1.2)) (fun _ => r) ?_ ⟨([], 0), by simpa using ha, by simp, by dsimp only; rw [items_id, up_zero]; rfl⟩ (fun _ => rfl) (fun _ => rfl) (fun _ => rfl) (fun _ => by kernel_rfl) (fun _ => ?_)
  ·rintro ⟨⟨zs, j⟩, hj, hzl, hinv⟩ L ihL; dsimp only at hj hzl hinv ihL ⊢; (conv=>arg 1;ext i;whnf)
   rw [items_succ F' d (s.data.toList.drop (a + j))] at hinv
   refine Evx.cq ([.ptr 2 9 0, .d (.int .i64 d)]) (pB s (a + j)) 2 ?_
   refine ih F' (by omega) s hs (a + j) hj d hd0 (by omega) (by omega) _ _ _ (fun v n1 h1 => ?_) (fun n1 h1 => ?_)
   ·have hn1 := ((fm_len F').1 d (s.data.toList.drop (a + j))).1
    have hb1 := ((fm_len F').1 d (s.data.toList.drop (a + j))).2 v n1 h1
    rw [h1, drop_len] at hn1
    have hn1 : n1 ≤ s.size - (a + j) := hn1
    have hv1 := v.bulk_pos
    rw [thenOk h1, List.drop_drop] at hinv
    (conv=>arg 1;ext i;whnf)
    refine Evx.appd (m := ((fms zs).length + 1) * 89) rfl (by rw [fms_len]; omega) ?_
    (conv=>arg 1;ext i;whnf)
    refine Evx.cq ([.ptr 2 9 0]) (pB s (a + j + n1)) 2 ?_
    refine peekE s (a + j + n1) (by omega) ?_
    (conv=>arg 1;ext i;whnf)
    (refine Evx.bool (fun h => ?_) (fun h => ?_) <;> (try simp only [bbs] at h) <;> (first | (exfalso; omega) | exact absurd trivial h | (conv=>arg 1;ext i;whnf)))
    ·rw [if_pos (by omega)] at hinv
     refine Evx.cq ([.ptr 2 9 0, .d (.str (bts [41]))]) (pB s (a + j + n1)) 2 ?_
     refine litE s hs [41] (by simp) (a + j + n1) (by omega) (fun n2 h2 => ?_) (fun n2 h2 => ?_)
     ·have hK := hok (zs ++ [v]) (j + n1 + n2) (by rw [hinv, h2]; simp [mapP, Rd.up, Nat.add_assoc])
      rw [← Nat.add_assoc, ← Nat.add_assoc, fms_one] at hK
      (conv=>arg 1;ext i;whnf)
      exact Evx.fq (hK)
     ·have hK := hno (j + n1 + n2) (by rw [hinv, h2]; simp [mapP, Rd.up, Nat.add_assoc])
      rw [← Nat.add_assoc, ← Nat.add_assoc] at hK
      (conv=>arg 1;ext i;whnf)
      exact Evx.fq (hK)
    ·rw [if_neg (by omega)] at hinv
     refine Evx.cq ([.ptr 2 9 0, .d (.str (bts [44, 32]))]) (pB s (a + j + n1)) 2 ?_
     refine litE s hs [44, 32] (by simp) (a + j + n1) (by omega) (fun n2 h2 => ?_) (fun n2 h2 => ?_)
     ·have hn2 := (lit_len [44, 32] (s.data.toList.drop (a + j + n1))).1
      have hn2' := (lit_len [44, 32] (s.data.toList.drop (a + j + n1))).2 () n2 h2
      rw [h2, drop_len] at hn2
      have hn2 : n2 ≤ s.size - (a + j + n1) := hn2
      simp only [List.length_cons, List.length_nil] at hn2'
      rw [thenOk h2, List.drop_drop, items_fuel (F := F') (G := F' + 1) (by rw [drop_len]; omega) (by rw [drop_len]; omega)] at hinv
      (conv=>arg 1;ext i;whnf)
      refine ihL ⟨(zs ++ [v], j + n1 + n2), ?_, ?_, ?_⟩ _ ?_ ?_ (fun _ => ?_)
      ·dsimp only; omega
      ·dsimp only; rw [List.length_append, List.length_singleton]; omega
      ·dsimp only
       rw [hinv, show a + (j + n1 + n2) = a + j + n1 + n2 by omega]
       cases itemsS (F' + 1) d (s.data.toList.drop (a + j + n1 + n2)) <;> simp [mapP, Rd.up, Nat.add_assoc]
      ·dsimp only; omega
      ·intro i
       rw [fms_one]
       kernel_rfl
      ·rw [show a + (j + n1 + n2) = a + j + n1 + n2 by omega]
       exact tabC
     ·have hK := hno (j + n1 + n2) (by rw [hinv, thenNo h2]; simp [mapP, Rd.up, Nat.add_assoc])
      rw [← Nat.add_assoc, ← Nat.add_assoc] at hK
      (conv=>arg 1;ext i;whnf)
      exact Evx.fq (hK)
   ·have hK := hno (j + n1) (by rw [hinv, thenNo h1]; simp [mapP, Rd.up])
    rw [← Nat.add_assoc] at hK
    (conv=>arg 1;ext i;whnf)
    exact Evx.fq (hK)
  ·exact tabC
theorem rebOk {α : Type} {X : Rd α} {P : α → Nat → Prop} {b n1 : Nat} (h : ∀ v n, X.up n1 = .ok v n → P v (b + n)) : ∀ v n, X = .ok v n → P v (b + n1 + n) := fun v n e => by
 have := h v (n1 + n) (by rw [e]; rfl)
 rwa [← Nat.add_assoc] at this
theorem rebNo {α : Type} {X : Rd α} {P : Nat → Prop} {b n1 : Nat} (h : ∀ n, X.up n1 = .no n → P (b + n)) : ∀ n, X = .no n → P (b + n1 + n) := fun n e => by
 have := h (n1 + n) (by rw [e]; rfl)
 rwa [← Nat.add_assoc] at this
theorem fm_succ (F : Nat) (d : Int) (l : List UInt8) : fmS (F + 1) d l = if (97 ≤ hd l ∧ hd l ≤ 122) then atomS d l else
   thenP (opS l) (fun op l =>
    if op = 1 ∨ op = 2 then .ok (.node op ⟨#[]⟩ [] 0 0 []) 0
    else if op = 8 ∨ op = 9 then thenP (litS [32] l) (fun _ l => thenP (symS l) (fun s l => bodyS F (d + 1) op (bts s) 0 0 1 l) l) l
    else if op = 10 then thenP (litS [32] l) (fun _ l => thenP (endS l) (fun a l => thenP (litS [32] l) (fun _ l => thenP (endS l) (fun b l => bodyS F d op ⟨#[]⟩ a b 1 l) l) l) l) l
    else if op = 7 then bodyS F d op ⟨#[]⟩ 0 0 2 l
    else if op = 5 ∨ op = 6 then bodyS F d op ⟨#[]⟩ 0 0 0 l
    else bodyS F d op ⟨#[]⟩ 0 0 1 l) l := by simp only [fmS]
theorem headB_hd (l : List UInt8) : headB l = true ↔ 97 ≤ hd l ∧ hd l ≤ 122 := by
 cases l with
 | nil => simp [headB, hd]
 | cons c l => simp only [headB, hd, lowerB, Bool.and_eq_true, decide_eq_true_eq]; omega
def fT (s : ByteArray) (a : Nat) (x : Box) : List ((Nat × Nat) × Box) := pB s a ++ [((3, 4), zeroBox), ((3, 5), x)]
def fBx (op : Int) (nm : ByteArray) (fr to : Int) (ks : AV) : Box := ⟨[.d (.int .i64 op), .d (.str nm), .d .nils, .d (.int .i64 fr), .d (.int .i64 to), ks], false, (0, 0)⟩
theorem body_list (F : Nat) (d op : Int) (nm : ByteArray) (a b : Int) (l : List UInt8) : bodyS (F + 1) d op nm a b 0 l = thenP (litS [40] l) (fun _ l => mapP (fun ks => Fm.node op nm [] a b ks) (if hd l = 41 then .ok [] 1 else itemsS F d l)) l := by simp only [bodyS]
theorem lit_dig {l : List UInt8} (h : digH l = true) (c : UInt8) (w : List UInt8) (hc : c.toNat < 48) : litS (c :: w) l = .no 0 := by
 obtain ⟨c', r, e, hc'⟩ := digH_cons h
 have := dig_hd.1 hc'
 rw [e]; simp only [litS]
 rw [if_neg (fun e => by subst e; omega)]
set_option maxHeartbeats 8000000 in
theorem fmE (F : Nat) (ih : ∀ G, G < F → FmT G) : FmT F := by
 intro s hs a ha d hd0 hd1 hF c K r hok hno
 obtain ⟨F', rfl⟩ : ∃ G, F = G + 1 := ⟨F - 1, by omega⟩
 rw [fm_succ] at hok hno
 apply Evx.enter; (conv=>arg 1;ext i;whnf)
 refine Evx.cq ([.ptr 2 9 0]) (pB s a) 2 ?_
 refine peekE s a ha ?_
 refine Evx.tk (pB s a ++ [((3, 4), zeroBox)]) 3 ?_
 (conv=>arg 1;ext i;whnf)
 refine Evx.call (firstH_ev _) ?_
 (conv=>arg 1;ext i;whnf)
 (refine Evx.bool (fun h => ?_) (fun h => ?_) <;> (try simp only [bbs] at h) <;> (first | (exfalso; omega) | exact absurd trivial h | (conv=>arg 1;ext i;whnf)))
 ·rw [if_pos ((headB_hd _).1 (by assumption))] at hok hno
  refine Evx.cq ([.ptr 2 9 0, .d (.int .i64 d)]) (pB s a) 2 ?_
  refine atomE s hs a ha d hd0 (by omega) (fun v n h1 => ?_) (fun n h1 => ?_)
  ·refine Evx.tk (pB s (a + n) ++ [((3, 4), zeroBox)]) 3 ?_
   (conv=>arg 1;ext i;whnf)
   exact Evx.fq ((hok v n h1))
  ·(conv=>arg 1;ext i;whnf)
   exact Evx.fq ((hno n h1))
 ·have hnl : ¬ (97 ≤ hd (s.data.toList.drop a) ∧ hd (s.data.toList.drop a) ≤ 122) := fun h' => by
   have := (headB_hd _).2 h'
   simp_all
  rw [if_neg hnl] at hok hno
  refine Evx.cq ([.ptr 2 9 0]) (pB s a) 2 ?_
  refine opE s hs a ha (fun op n1 h1 => ?_) (fun n1 h1 => ?_)
  ·have ho := op_two h1
   rw [drop_len] at ho
   rw [thenOk h1, List.drop_drop] at hok hno
   refine Evx.tk (pB s (a + n1) ++ [((3, 4), zeroBox)]) 3 ?_
   (conv=>arg 1;ext i;whnf)
   have hs1 : s.size - (a + n1) = s.size - a - n1 := by omega
   (refine Evx.bool (fun h => ?_) (fun h => ?_) <;> (try simp only [bbs] at h) <;> (first | (exfalso; omega) | exact absurd trivial h | (conv=>arg 1;ext i;whnf)))
   ·rw [if_pos (by omega)] at hok hno
    exact Evx.fq ((hok (Fm.node op ⟨#[]⟩ [] 0 0 []) (n1 + 0) rfl))
   ·(refine Evx.bool (fun h => ?_) (fun h => ?_) <;> (try simp only [bbs] at h) <;> (first | (exfalso; omega) | exact absurd trivial h | (conv=>arg 1;ext i;whnf)))
    ·rw [if_pos (by omega)] at hok hno
     exact Evx.fq ((hok (Fm.node op ⟨#[]⟩ [] 0 0 []) (n1 + 0) rfl))
    ·rw [if_neg (by omega)] at hok hno
     (refine Evx.bool (fun h => ?_) (fun h => ?_) <;> (try simp only [bbs] at h) <;> (first | (exfalso; omega) | exact absurd trivial h | (conv=>arg 1;ext i;whnf)))
     ·rw [if_pos (by omega)] at hok hno
      have hb : a + n1 ≤ s.size := by omega
      obtain ⟨F'', rfl⟩ : ∃ G, F' = G + 1 := ⟨F' - 1, by omega⟩
      replace hok := rebOk (P := fun v p => Evx (fun i => K i (.ret [.d (Fm.d v)]) ⟨tabB (pB s p), 2, []⟩) r) hok
      replace hno := rebNo (P := fun p => Evx (fun i => K i (.pan (wrongD p)) ⟨tabB (pB s p), 2, []⟩) r) hno
      refine Evx.cq ([.ptr 2 9 0, .d (.str (bts [32]))]) (pB s (a + n1)) 2 ?_
      refine litE s hs [32] (by simp) (a + n1) hb (fun m2 k2 => ?_) (fun m2 k2 => ?_)
      ·have km2 := (lit_len [32] (s.data.toList.drop (a + n1))).1
       have km2' := (lit_len [32] (s.data.toList.drop (a + n1))).2 () m2 k2
       rw [k2, drop_len] at km2
       have km2 : m2 ≤ s.size - (a + n1) := km2
       simp only [List.length_cons, List.length_nil] at km2'
       rw [thenOk k2, List.drop_drop] at hok hno
       replace hok := rebOk (P := fun v p => Evx (fun i => K i (.ret [.d (Fm.d v)]) ⟨tabB (pB s p), 2, []⟩) r) hok
       replace hno := rebNo (P := fun p => Evx (fun i => K i (.pan (wrongD p)) ⟨tabB (pB s p), 2, []⟩) r) hno
       refine Evx.tk (fT s (a + n1 + m2) (fBx op ⟨#[]⟩ 0 0 (.d .nils))) 3 ?_
       (conv=>arg 1;ext i;whnf)
       refine Evx.cq ([.ptr 2 9 0]) (pB s (a + n1 + m2)) 2 ?_
       refine symE s hs (a + n1 + m2) (by omega) (fun nm m3 k3 => ?_) (fun k3 => ?_)
       ·have km3 := (sym_len (s.data.toList.drop (a + n1 + m2))).1
        rw [k3, drop_len] at km3
        have km3 : m3 ≤ s.size - (a + n1 + m2) := km3
        rw [thenOk k3, List.drop_drop] at hok hno
        replace hok := rebOk (P := fun v p => Evx (fun i => K i (.ret [.d (Fm.d v)]) ⟨tabB (pB s p), 2, []⟩) r) hok
        replace hno := rebNo (P := fun p => Evx (fun i => K i (.pan (wrongD p)) ⟨tabB (pB s p), 2, []⟩) r) hno
        replace hb : a + n1 + m2 + m3 ≤ s.size := by omega
        refine Evx.tk (fT s (a + n1 + m2 + m3) (fBx op ⟨#[]⟩ 0 0 (.d .nils))) 3 ?_
        (conv=>arg 1;ext i;whnf)
        refine Evx.int (n' := d + 1) (by (try dsimp only); rw [wrap_small] <;> omega) ?_
        (conv=>arg 1;ext i;whnf)
        refine Evx.cq ([.ptr 2 9 0, .d (.str (bts [40]))]) (pB s (a + n1 + m2 + m3)) 2 ?_
        refine litE s hs [40] (by simp) (a + n1 + m2 + m3) hb (fun n2 h2 => ?_) (fun n2 h2 => ?_)
        ·have hn2 := (lit_len [40] (s.data.toList.drop (a + n1 + m2 + m3))).1
         have hn2' := (lit_len [40] (s.data.toList.drop (a + n1 + m2 + m3))).2 () n2 h2
         rw [h2, drop_len] at hn2
         have hn2 : n2 ≤ s.size - (a + n1 + m2 + m3) := hn2
         simp only [List.length_cons, List.length_nil] at hn2'
         have hok2 : ∀ ks n, restS (F'') (d + 1) (1) true (s.data.toList.drop ((a + n1 + m2 + m3) + n2)) = .ok ks n → Evx (fun i => K i (.ret [.d (Fm.node (op) (bts nm) [] (0) (0) ks).d]) ⟨tabB (pB s ((a + n1 + m2 + m3) + n2 + n)), 2, []⟩) r := fun ks n h => by
          have := hok (Fm.node (op) (bts nm) [] (0) (0) ks) (n2 + n) (by rw [body_rest _ _ _ _ _ _ _ _ (by omega), thenOk h2, List.drop_drop, h]; rfl)
          rwa [← Nat.add_assoc] at this
         have hno2 : ∀ n, restS (F'') (d + 1) (1) true (s.data.toList.drop ((a + n1 + m2 + m3) + n2)) = .no n → Evx (fun i => K i (.pan (wrongD ((a + n1 + m2 + m3) + n2 + n))) ⟨tabB (pB s ((a + n1 + m2 + m3) + n2 + n)), 2, []⟩) r := fun n h => by
          have := hno (n2 + n) (by rw [body_rest _ _ _ _ _ _ _ _ (by omega), thenOk h2, List.drop_drop, h]; rfl)
          rwa [← Nat.add_assoc] at this
         refine Evx.tk (fT s ((a + n1 + m2 + m3) + n2) (fBx (op) (bts nm) (0) (0) (.d .nils))) 3 ?_
         (conv=>arg 1;ext i;whnf)
         (refine Evx.bool (fun h => ?_) (fun h => ?_) <;> (try simp only [bbs] at h) <;> (first | (exfalso; omega) | exact absurd trivial h | (conv=>arg 1;ext i;whnf)))
         obtain ⟨e, he⟩ : ∃ e, e = (a + n1 + m2 + m3) + n2 := ⟨_, rfl⟩
         rw [← he] at hok2 hno2 ⊢
         have hes : e ≤ s.size := by omega
         refine Evx.loopB hint43 29 (α := { p : List Fm × Nat // p.1.length ≤ (1) ∧ e + p.2 ≤ s.size ∧ restS (F'') (d + 1) (1) true (s.data.toList.drop e) = (mapP (fun ks => p.1 ++ ks) (restS (F'') (d + 1) ((1) - p.1.length) p.1.isEmpty (s.data.toList.drop (e + p.2)))).up p.2 }) (fun p => [some (.ptr 2 9 0), some (.d (.int .i64 (d + 1))), some (.ptr 3 4 0), some (.ptr 3 5 0), some (.d (.int .i64 ((1) : Nat))), some (.d (.int .i64 (p.1.1.length : Nat)))]) (fun p => [some zeroBox, some (fBx (op) (bts nm) (0) (0) (.own (.box 3 5 5) 6 (fms p.1.1)))]) (fun p => pB s (e + p.1.2)) 3 [] (fun p => (1) - p.1.1.length) (fun _ => r) ?_ ⟨([], 0), by simp, hes, by dsimp only [List.length_nil, List.isEmpty_nil]; rw [items_id, up_zero]; rfl⟩ (fun _ => rfl) (fun _ => rfl) (fun _ => rfl) (fun _ => by kernel_rfl) (fun _ => ?_)
         ·rintro ⟨⟨zs, j⟩, hl, hj, hinv⟩ L ih2; dsimp only at hl hj hinv ih2 ⊢; (conv=>arg 1;ext i;whnf)
          (refine Evx.bool (fun h => ?_) (fun h => ?_) <;> (try simp only [bbs] at h) <;> (first | (exfalso; omega) | exact absurd trivial h | (conv=>arg 1;ext i;whnf)))
          ·obtain ⟨m, hm⟩ : ∃ m, (1) - zs.length = m + 1 := ⟨(1) - zs.length - 1, by omega⟩
           rw [hm] at hinv
           rcases Nat.eq_zero_or_pos zs.length with hz | hz
           ·have hze : zs = [] := List.eq_nil_of_length_eq_zero hz
            have hie : zs.isEmpty = true := by rw [hze]; rfl
            rw [hie, rest_true (F'') (d + 1) m s.data.toList (e + j)] at hinv
            (refine Evx.bool (fun h => ?_) (fun h => ?_) <;> (try simp only [bbs] at h) <;> (first | (exfalso; omega) | exact absurd trivial h | (conv=>arg 1;ext i;whnf)))
            refine Evx.cq ([.ptr 2 9 0, .d (.int .i64 (d + 1))]) (pB s (e + j + 0)) 2 ?_
            refine ih (F'') (by omega) s hs (e + j + 0) (by omega) (d + 1) (by omega) (by omega) (by omega) _ _ _ (fun v n4 h4 => ?_) (fun n4 h4 => ?_)
            ·have hn4 := ((fm_len (F'')).1 (d + 1) (s.data.toList.drop (e + j + 0))).1
             rw [h4, drop_len] at hn4
             have hn4 : n4 ≤ s.size - (e + j + 0) := hn4
             rw [thenOk h4, List.drop_drop] at hinv
             refine Evx.tk (fT s (e + j + 0 + n4) (fBx (op) (bts nm) (0) (0) (.own (.box 3 5 5) 6 (fms zs)))) 3 ?_
             (conv=>arg 1;ext i;whnf)
             refine Evx.appd (m := ((fms zs).length + 1) * 89) rfl (by rw [fms_len]; omega) ?_
             (conv=>arg 1;ext i;whnf)
             refine Evx.int (wrap_succ (n := zs.length) (by omega)) ?_
             (conv=>arg 1;ext i;whnf)
             refine ih2 ⟨(zs ++ [v], j + 0 + n4), ?_, ?_, ?_⟩ _ ?_ ?_ (fun _ => ?_)
             ·dsimp only; rw [List.length_append, List.length_singleton]; omega
             ·dsimp only; omega
             ·dsimp only
              rw [hinv, List.length_append, List.length_singleton, show (1) - (zs.length + 1) = m by omega, show (zs ++ [v]).isEmpty = false by cases zs <;> rfl, show e + (j + 0 + n4) = e + j + 0 + n4 by omega]
              cases restS (F'') (d + 1) m false (s.data.toList.drop (e + j + 0 + n4)) <;> simp [mapP, Rd.up, Nat.add_assoc]
             ·dsimp only; rw [List.length_append, List.length_singleton]; omega
             ·intro i
              rw [fms_one, List.length_append, List.length_singleton]
              kernel_rfl
             ·rw [show e + (j + 0 + n4) = e + j + 0 + n4 by omega]
              exact tabC
            ·have hK := hno2 (j + 0 + n4) (by rw [hinv, thenNo h4]; simp [mapP, Rd.up, Nat.add_assoc])
             rw [← Nat.add_assoc, ← Nat.add_assoc] at hK
             (conv=>arg 1;ext i;whnf)
             exact Evx.fq (hK)
           ·(try (exfalso; omega))
            all_goals
             have hze : zs.isEmpty = false := by cases zs with
              | nil => simp at hz
              | cons a b => rfl
             rw [hze, rest_false (F'') (d + 1) m (s.data.toList.drop (e + j))] at hinv
             (refine Evx.bool (fun h => ?_) (fun h => ?_) <;> (try simp only [bbs] at h) <;> (first | (exfalso; omega) | exact absurd trivial h | (conv=>arg 1;ext i;whnf)))
             refine Evx.cq ([.ptr 2 9 0, .d (.str (bts [44, 32]))]) (pB s (e + j)) 2 ?_
             refine litE s hs [44, 32] (by simp) (e + j) hj (fun n3 h3 => ?_) (fun n3 h3 => ?_)
             ·have hn3 := (lit_len [44, 32] (s.data.toList.drop (e + j))).1
              rw [h3, drop_len] at hn3
              have hn3 : n3 ≤ s.size - (e + j) := hn3
              rw [thenOk h3, List.drop_drop] at hinv
              refine Evx.tk (fT s (e + j + n3) (fBx (op) (bts nm) (0) (0) (.own (.box 3 5 5) 6 (fms zs)))) 3 ?_
              (conv=>arg 1;ext i;whnf)
              refine Evx.cq ([.ptr 2 9 0, .d (.int .i64 (d + 1))]) (pB s (e + j + n3)) 2 ?_
              refine ih (F'') (by omega) s hs (e + j + n3) (by omega) (d + 1) (by omega) (by omega) (by omega) _ _ _ (fun v n4 h4 => ?_) (fun n4 h4 => ?_)
              ·have hn4 := ((fm_len (F'')).1 (d + 1) (s.data.toList.drop (e + j + n3))).1
               rw [h4, drop_len] at hn4
               have hn4 : n4 ≤ s.size - (e + j + n3) := hn4
               rw [thenOk h4, List.drop_drop] at hinv
               refine Evx.tk (fT s (e + j + n3 + n4) (fBx (op) (bts nm) (0) (0) (.own (.box 3 5 5) 6 (fms zs)))) 3 ?_
               (conv=>arg 1;ext i;whnf)
               refine Evx.appd (m := ((fms zs).length + 1) * 89) rfl (by rw [fms_len]; omega) ?_
               (conv=>arg 1;ext i;whnf)
               refine Evx.int (wrap_succ (n := zs.length) (by omega)) ?_
               (conv=>arg 1;ext i;whnf)
               refine ih2 ⟨(zs ++ [v], j + n3 + n4), ?_, ?_, ?_⟩ _ ?_ ?_ (fun _ => ?_)
               ·dsimp only; rw [List.length_append, List.length_singleton]; omega
               ·dsimp only; omega
               ·dsimp only
                rw [hinv, List.length_append, List.length_singleton, show (1) - (zs.length + 1) = m by omega, show (zs ++ [v]).isEmpty = false by cases zs <;> rfl, show e + (j + n3 + n4) = e + j + n3 + n4 by omega]
                cases restS (F'') (d + 1) m false (s.data.toList.drop (e + j + n3 + n4)) <;> simp [mapP, Rd.up, Nat.add_assoc]
               ·dsimp only; rw [List.length_append, List.length_singleton]; omega
               ·intro i
                rw [fms_one, List.length_append, List.length_singleton]
                kernel_rfl
               ·rw [show e + (j + n3 + n4) = e + j + n3 + n4 by omega]
                exact tabC
              ·have hK := hno2 (j + n3 + n4) (by rw [hinv, thenNo h4]; simp [mapP, Rd.up, Nat.add_assoc])
               rw [← Nat.add_assoc, ← Nat.add_assoc] at hK
               (conv=>arg 1;ext i;whnf)
               exact Evx.fq (hK)
             ·have hK := hno2 (j + n3) (by rw [hinv, thenNo h3]; rfl)
              rw [← Nat.add_assoc] at hK
              (conv=>arg 1;ext i;whnf)
              exact Evx.fq (hK)
          ·have hm : (1) - zs.length = 0 := by omega
           rw [hm] at hinv
           rw [show restS (F'') (d + 1) 0 zs.isEmpty (s.data.toList.drop (e + j)) = mapP (fun _ => []) (litS [41] (s.data.toList.drop (e + j))) by simp only [restS]] at hinv
           refine Evx.cq ([.ptr 2 9 0, .d (.str (bts [41]))]) (pB s (e + j)) 2 ?_
           refine litE s hs [41] (by simp) (e + j) hj (fun n4 h4 => ?_) (fun n4 h4 => ?_)
           ·have hK := hok2 zs (j + n4) (by rw [hinv, h4]; simp [mapP, Rd.up, Nat.add_assoc])
            unfold Fm.d at hK
            rw [← Nat.add_assoc] at hK
            refine Evx.tk (fT s (e + j + n4) (fBx (op) (bts nm) (0) (0) (.own (.box 3 5 5) 6 (fms zs)))) 3 ?_
            (conv=>arg 1;ext i;whnf)
            exact Evx.fq (hK)
           ·have hK := hno2 (j + n4) (by rw [hinv, h4]; simp [mapP, Rd.up, Nat.add_assoc])
            rw [← Nat.add_assoc] at hK
            (conv=>arg 1;ext i;whnf)
            exact Evx.fq (hK)
         ·exact tabC
        ·have hK := hno n2 (by rw [body_rest _ _ _ _ _ _ _ _ (by omega), thenNo h2])
         (conv=>arg 1;ext i;whnf)
         exact Evx.fq (hK)
       ·have hK := hno 0 (by rw [thenNo k3])
        (conv=>arg 1;ext i;whnf)
        exact Evx.fq (hK)
      ·have hK := hno m2 (by rw [thenNo k2])
       (conv=>arg 1;ext i;whnf)
       exact Evx.fq (hK)
     ·(refine Evx.bool (fun h => ?_) (fun h => ?_) <;> (try simp only [bbs] at h) <;> (first | (exfalso; omega) | exact absurd trivial h | (conv=>arg 1;ext i;whnf)))
      ·rw [if_pos (by omega)] at hok hno
       have hb : a + n1 ≤ s.size := by omega
       obtain ⟨F'', rfl⟩ : ∃ G, F' = G + 1 := ⟨F' - 1, by omega⟩
       replace hok := rebOk (P := fun v p => Evx (fun i => K i (.ret [.d (Fm.d v)]) ⟨tabB (pB s p), 2, []⟩) r) hok
       replace hno := rebNo (P := fun p => Evx (fun i => K i (.pan (wrongD p)) ⟨tabB (pB s p), 2, []⟩) r) hno
       refine Evx.cq ([.ptr 2 9 0, .d (.str (bts [32]))]) (pB s (a + n1)) 2 ?_
       refine litE s hs [32] (by simp) (a + n1) hb (fun m2 k2 => ?_) (fun m2 k2 => ?_)
       ·have km2 := (lit_len [32] (s.data.toList.drop (a + n1))).1
        have km2' := (lit_len [32] (s.data.toList.drop (a + n1))).2 () m2 k2
        rw [k2, drop_len] at km2
        have km2 : m2 ≤ s.size - (a + n1) := km2
        simp only [List.length_cons, List.length_nil] at km2'
        rw [thenOk k2, List.drop_drop] at hok hno
        replace hok := rebOk (P := fun v p => Evx (fun i => K i (.ret [.d (Fm.d v)]) ⟨tabB (pB s p), 2, []⟩) r) hok
        replace hno := rebNo (P := fun p => Evx (fun i => K i (.pan (wrongD p)) ⟨tabB (pB s p), 2, []⟩) r) hno
        refine Evx.tk (fT s (a + n1 + m2) (fBx op ⟨#[]⟩ 0 0 (.d .nils))) 3 ?_
        (conv=>arg 1;ext i;whnf)
        refine Evx.cq ([.ptr 2 9 0]) (pB s (a + n1 + m2)) 2 ?_
        refine symE s hs (a + n1 + m2) (by omega) (fun nm m3 k3 => ?_) (fun k3 => ?_)
        ·have km3 := (sym_len (s.data.toList.drop (a + n1 + m2))).1
         rw [k3, drop_len] at km3
         have km3 : m3 ≤ s.size - (a + n1 + m2) := km3
         rw [thenOk k3, List.drop_drop] at hok hno
         replace hok := rebOk (P := fun v p => Evx (fun i => K i (.ret [.d (Fm.d v)]) ⟨tabB (pB s p), 2, []⟩) r) hok
         replace hno := rebNo (P := fun p => Evx (fun i => K i (.pan (wrongD p)) ⟨tabB (pB s p), 2, []⟩) r) hno
         replace hb : a + n1 + m2 + m3 ≤ s.size := by omega
         refine Evx.tk (fT s (a + n1 + m2 + m3) (fBx op ⟨#[]⟩ 0 0 (.d .nils))) 3 ?_
         (conv=>arg 1;ext i;whnf)
         refine Evx.int (n' := d + 1) (by (try dsimp only); rw [wrap_small] <;> omega) ?_
         (conv=>arg 1;ext i;whnf)
         refine Evx.cq ([.ptr 2 9 0, .d (.str (bts [40]))]) (pB s (a + n1 + m2 + m3)) 2 ?_
         refine litE s hs [40] (by simp) (a + n1 + m2 + m3) hb (fun n2 h2 => ?_) (fun n2 h2 => ?_)
         ·have hn2 := (lit_len [40] (s.data.toList.drop (a + n1 + m2 + m3))).1
          have hn2' := (lit_len [40] (s.data.toList.drop (a + n1 + m2 + m3))).2 () n2 h2
          rw [h2, drop_len] at hn2
          have hn2 : n2 ≤ s.size - (a + n1 + m2 + m3) := hn2
          simp only [List.length_cons, List.length_nil] at hn2'
          have hok2 : ∀ ks n, restS (F'') (d + 1) (1) true (s.data.toList.drop ((a + n1 + m2 + m3) + n2)) = .ok ks n → Evx (fun i => K i (.ret [.d (Fm.node (op) (bts nm) [] (0) (0) ks).d]) ⟨tabB (pB s ((a + n1 + m2 + m3) + n2 + n)), 2, []⟩) r := fun ks n h => by
           have := hok (Fm.node (op) (bts nm) [] (0) (0) ks) (n2 + n) (by rw [body_rest _ _ _ _ _ _ _ _ (by omega), thenOk h2, List.drop_drop, h]; rfl)
           rwa [← Nat.add_assoc] at this
          have hno2 : ∀ n, restS (F'') (d + 1) (1) true (s.data.toList.drop ((a + n1 + m2 + m3) + n2)) = .no n → Evx (fun i => K i (.pan (wrongD ((a + n1 + m2 + m3) + n2 + n))) ⟨tabB (pB s ((a + n1 + m2 + m3) + n2 + n)), 2, []⟩) r := fun n h => by
           have := hno (n2 + n) (by rw [body_rest _ _ _ _ _ _ _ _ (by omega), thenOk h2, List.drop_drop, h]; rfl)
           rwa [← Nat.add_assoc] at this
          refine Evx.tk (fT s ((a + n1 + m2 + m3) + n2) (fBx (op) (bts nm) (0) (0) (.d .nils))) 3 ?_
          (conv=>arg 1;ext i;whnf)
          (refine Evx.bool (fun h => ?_) (fun h => ?_) <;> (try simp only [bbs] at h) <;> (first | (exfalso; omega) | exact absurd trivial h | (conv=>arg 1;ext i;whnf)))
          obtain ⟨e, he⟩ : ∃ e, e = (a + n1 + m2 + m3) + n2 := ⟨_, rfl⟩
          rw [← he] at hok2 hno2 ⊢
          have hes : e ≤ s.size := by omega
          refine Evx.loopB hint43 29 (α := { p : List Fm × Nat // p.1.length ≤ (1) ∧ e + p.2 ≤ s.size ∧ restS (F'') (d + 1) (1) true (s.data.toList.drop e) = (mapP (fun ks => p.1 ++ ks) (restS (F'') (d + 1) ((1) - p.1.length) p.1.isEmpty (s.data.toList.drop (e + p.2)))).up p.2 }) (fun p => [some (.ptr 2 9 0), some (.d (.int .i64 (d + 1))), some (.ptr 3 4 0), some (.ptr 3 5 0), some (.d (.int .i64 ((1) : Nat))), some (.d (.int .i64 (p.1.1.length : Nat)))]) (fun p => [some zeroBox, some (fBx (op) (bts nm) (0) (0) (.own (.box 3 5 5) 6 (fms p.1.1)))]) (fun p => pB s (e + p.1.2)) 3 [] (fun p => (1) - p.1.1.length) (fun _ => r) ?_ ⟨([], 0), by simp, hes, by dsimp only [List.length_nil, List.isEmpty_nil]; rw [items_id, up_zero]; rfl⟩ (fun _ => rfl) (fun _ => rfl) (fun _ => rfl) (fun _ => by kernel_rfl) (fun _ => ?_)
          ·rintro ⟨⟨zs, j⟩, hl, hj, hinv⟩ L ih2; dsimp only at hl hj hinv ih2 ⊢; (conv=>arg 1;ext i;whnf)
           (refine Evx.bool (fun h => ?_) (fun h => ?_) <;> (try simp only [bbs] at h) <;> (first | (exfalso; omega) | exact absurd trivial h | (conv=>arg 1;ext i;whnf)))
           ·obtain ⟨m, hm⟩ : ∃ m, (1) - zs.length = m + 1 := ⟨(1) - zs.length - 1, by omega⟩
            rw [hm] at hinv
            rcases Nat.eq_zero_or_pos zs.length with hz | hz
            ·have hze : zs = [] := List.eq_nil_of_length_eq_zero hz
             have hie : zs.isEmpty = true := by rw [hze]; rfl
             rw [hie, rest_true (F'') (d + 1) m s.data.toList (e + j)] at hinv
             (refine Evx.bool (fun h => ?_) (fun h => ?_) <;> (try simp only [bbs] at h) <;> (first | (exfalso; omega) | exact absurd trivial h | (conv=>arg 1;ext i;whnf)))
             refine Evx.cq ([.ptr 2 9 0, .d (.int .i64 (d + 1))]) (pB s (e + j + 0)) 2 ?_
             refine ih (F'') (by omega) s hs (e + j + 0) (by omega) (d + 1) (by omega) (by omega) (by omega) _ _ _ (fun v n4 h4 => ?_) (fun n4 h4 => ?_)
             ·have hn4 := ((fm_len (F'')).1 (d + 1) (s.data.toList.drop (e + j + 0))).1
              rw [h4, drop_len] at hn4
              have hn4 : n4 ≤ s.size - (e + j + 0) := hn4
              rw [thenOk h4, List.drop_drop] at hinv
              refine Evx.tk (fT s (e + j + 0 + n4) (fBx (op) (bts nm) (0) (0) (.own (.box 3 5 5) 6 (fms zs)))) 3 ?_
              (conv=>arg 1;ext i;whnf)
              refine Evx.appd (m := ((fms zs).length + 1) * 89) rfl (by rw [fms_len]; omega) ?_
              (conv=>arg 1;ext i;whnf)
              refine Evx.int (wrap_succ (n := zs.length) (by omega)) ?_
              (conv=>arg 1;ext i;whnf)
              refine ih2 ⟨(zs ++ [v], j + 0 + n4), ?_, ?_, ?_⟩ _ ?_ ?_ (fun _ => ?_)
              ·dsimp only; rw [List.length_append, List.length_singleton]; omega
              ·dsimp only; omega
              ·dsimp only
               rw [hinv, List.length_append, List.length_singleton, show (1) - (zs.length + 1) = m by omega, show (zs ++ [v]).isEmpty = false by cases zs <;> rfl, show e + (j + 0 + n4) = e + j + 0 + n4 by omega]
               cases restS (F'') (d + 1) m false (s.data.toList.drop (e + j + 0 + n4)) <;> simp [mapP, Rd.up, Nat.add_assoc]
              ·dsimp only; rw [List.length_append, List.length_singleton]; omega
              ·intro i
               rw [fms_one, List.length_append, List.length_singleton]
               kernel_rfl
              ·rw [show e + (j + 0 + n4) = e + j + 0 + n4 by omega]
               exact tabC
             ·have hK := hno2 (j + 0 + n4) (by rw [hinv, thenNo h4]; simp [mapP, Rd.up, Nat.add_assoc])
              rw [← Nat.add_assoc, ← Nat.add_assoc] at hK
              (conv=>arg 1;ext i;whnf)
              exact Evx.fq (hK)
            ·(try (exfalso; omega))
             all_goals
              have hze : zs.isEmpty = false := by cases zs with
               | nil => simp at hz
               | cons a b => rfl
              rw [hze, rest_false (F'') (d + 1) m (s.data.toList.drop (e + j))] at hinv
              (refine Evx.bool (fun h => ?_) (fun h => ?_) <;> (try simp only [bbs] at h) <;> (first | (exfalso; omega) | exact absurd trivial h | (conv=>arg 1;ext i;whnf)))
              refine Evx.cq ([.ptr 2 9 0, .d (.str (bts [44, 32]))]) (pB s (e + j)) 2 ?_
              refine litE s hs [44, 32] (by simp) (e + j) hj (fun n3 h3 => ?_) (fun n3 h3 => ?_)
              ·have hn3 := (lit_len [44, 32] (s.data.toList.drop (e + j))).1
               rw [h3, drop_len] at hn3
               have hn3 : n3 ≤ s.size - (e + j) := hn3
               rw [thenOk h3, List.drop_drop] at hinv
               refine Evx.tk (fT s (e + j + n3) (fBx (op) (bts nm) (0) (0) (.own (.box 3 5 5) 6 (fms zs)))) 3 ?_
               (conv=>arg 1;ext i;whnf)
               refine Evx.cq ([.ptr 2 9 0, .d (.int .i64 (d + 1))]) (pB s (e + j + n3)) 2 ?_
               refine ih (F'') (by omega) s hs (e + j + n3) (by omega) (d + 1) (by omega) (by omega) (by omega) _ _ _ (fun v n4 h4 => ?_) (fun n4 h4 => ?_)
               ·have hn4 := ((fm_len (F'')).1 (d + 1) (s.data.toList.drop (e + j + n3))).1
                rw [h4, drop_len] at hn4
                have hn4 : n4 ≤ s.size - (e + j + n3) := hn4
                rw [thenOk h4, List.drop_drop] at hinv
                refine Evx.tk (fT s (e + j + n3 + n4) (fBx (op) (bts nm) (0) (0) (.own (.box 3 5 5) 6 (fms zs)))) 3 ?_
                (conv=>arg 1;ext i;whnf)
                refine Evx.appd (m := ((fms zs).length + 1) * 89) rfl (by rw [fms_len]; omega) ?_
                (conv=>arg 1;ext i;whnf)
                refine Evx.int (wrap_succ (n := zs.length) (by omega)) ?_
                (conv=>arg 1;ext i;whnf)
                refine ih2 ⟨(zs ++ [v], j + n3 + n4), ?_, ?_, ?_⟩ _ ?_ ?_ (fun _ => ?_)
                ·dsimp only; rw [List.length_append, List.length_singleton]; omega
                ·dsimp only; omega
                ·dsimp only
                 rw [hinv, List.length_append, List.length_singleton, show (1) - (zs.length + 1) = m by omega, show (zs ++ [v]).isEmpty = false by cases zs <;> rfl, show e + (j + n3 + n4) = e + j + n3 + n4 by omega]
                 cases restS (F'') (d + 1) m false (s.data.toList.drop (e + j + n3 + n4)) <;> simp [mapP, Rd.up, Nat.add_assoc]
                ·dsimp only; rw [List.length_append, List.length_singleton]; omega
                ·intro i
                 rw [fms_one, List.length_append, List.length_singleton]
                 kernel_rfl
                ·rw [show e + (j + n3 + n4) = e + j + n3 + n4 by omega]
                 exact tabC
               ·have hK := hno2 (j + n3 + n4) (by rw [hinv, thenNo h4]; simp [mapP, Rd.up, Nat.add_assoc])
                rw [← Nat.add_assoc, ← Nat.add_assoc] at hK
                (conv=>arg 1;ext i;whnf)
                exact Evx.fq (hK)
              ·have hK := hno2 (j + n3) (by rw [hinv, thenNo h3]; rfl)
               rw [← Nat.add_assoc] at hK
               (conv=>arg 1;ext i;whnf)
               exact Evx.fq (hK)
           ·have hm : (1) - zs.length = 0 := by omega
            rw [hm] at hinv
            rw [show restS (F'') (d + 1) 0 zs.isEmpty (s.data.toList.drop (e + j)) = mapP (fun _ => []) (litS [41] (s.data.toList.drop (e + j))) by simp only [restS]] at hinv
            refine Evx.cq ([.ptr 2 9 0, .d (.str (bts [41]))]) (pB s (e + j)) 2 ?_
            refine litE s hs [41] (by simp) (e + j) hj (fun n4 h4 => ?_) (fun n4 h4 => ?_)
            ·have hK := hok2 zs (j + n4) (by rw [hinv, h4]; simp [mapP, Rd.up, Nat.add_assoc])
             unfold Fm.d at hK
             rw [← Nat.add_assoc] at hK
             refine Evx.tk (fT s (e + j + n4) (fBx (op) (bts nm) (0) (0) (.own (.box 3 5 5) 6 (fms zs)))) 3 ?_
             (conv=>arg 1;ext i;whnf)
             exact Evx.fq (hK)
            ·have hK := hno2 (j + n4) (by rw [hinv, h4]; simp [mapP, Rd.up, Nat.add_assoc])
             rw [← Nat.add_assoc] at hK
             (conv=>arg 1;ext i;whnf)
             exact Evx.fq (hK)
          ·exact tabC
         ·have hK := hno n2 (by rw [body_rest _ _ _ _ _ _ _ _ (by omega), thenNo h2])
          (conv=>arg 1;ext i;whnf)
          exact Evx.fq (hK)
        ·have hK := hno 0 (by rw [thenNo k3])
         (conv=>arg 1;ext i;whnf)
         exact Evx.fq (hK)
       ·have hK := hno m2 (by rw [thenNo k2])
        (conv=>arg 1;ext i;whnf)
        exact Evx.fq (hK)
      ·rw [if_neg (by omega)] at hok hno
       (refine Evx.bool (fun h => ?_) (fun h => ?_) <;> (try simp only [bbs] at h) <;> (first | (exfalso; omega) | exact absurd trivial h | (conv=>arg 1;ext i;whnf)))
       ·rw [if_pos (by omega)] at hok hno
        have hb : a + n1 ≤ s.size := by omega
        obtain ⟨F'', rfl⟩ : ∃ G, F' = G + 1 := ⟨F' - 1, by omega⟩
        replace hok := rebOk (P := fun v p => Evx (fun i => K i (.ret [.d (Fm.d v)]) ⟨tabB (pB s p), 2, []⟩) r) hok
        replace hno := rebNo (P := fun p => Evx (fun i => K i (.pan (wrongD p)) ⟨tabB (pB s p), 2, []⟩) r) hno
        refine Evx.cq ([.ptr 2 9 0, .d (.str (bts [32]))]) (pB s (a + n1)) 2 ?_
        refine litE s hs [32] (by simp) (a + n1) hb (fun m2 k2 => ?_) (fun m2 k2 => ?_)
        ·have km2 := (lit_len [32] (s.data.toList.drop (a + n1))).1
         have km2' := (lit_len [32] (s.data.toList.drop (a + n1))).2 () m2 k2
         rw [k2, drop_len] at km2
         have km2 : m2 ≤ s.size - (a + n1) := km2
         simp only [List.length_cons, List.length_nil] at km2'
         rw [thenOk k2, List.drop_drop] at hok hno
         replace hok := rebOk (P := fun v p => Evx (fun i => K i (.ret [.d (Fm.d v)]) ⟨tabB (pB s p), 2, []⟩) r) hok
         replace hno := rebNo (P := fun p => Evx (fun i => K i (.pan (wrongD p)) ⟨tabB (pB s p), 2, []⟩) r) hno
         refine Evx.tk (fT s (a + n1 + m2) (fBx op ⟨#[]⟩ 0 0 (.d .nils))) 3 ?_
         (conv=>arg 1;ext i;whnf)
         refine Evx.cq ([.ptr 2 9 0]) (pB s (a + n1 + m2)) 2 ?_
         refine endE s hs (a + n1 + m2) (by omega) (fun v3 m3 k3 => ?_) (fun v3 m3 k3 hdig => ?_) (fun m3 k3 => ?_)
         ·have km3 := end_len (s.data.toList.drop (a + n1 + m2))
          rw [k3, drop_len] at km3
          have km3 : m3 ≤ s.size - (a + n1 + m2) := km3
          rw [thenOk k3, List.drop_drop] at hok hno
          replace hok := rebOk (P := fun v p => Evx (fun i => K i (.ret [.d (Fm.d v)]) ⟨tabB (pB s p), 2, []⟩) r) hok
          replace hno := rebNo (P := fun p => Evx (fun i => K i (.pan (wrongD p)) ⟨tabB (pB s p), 2, []⟩) r) hno
          refine Evx.tk (fT s (a + n1 + m2 + m3) (fBx op ⟨#[]⟩ 0 0 (.d .nils))) 3 ?_
          (conv=>arg 1;ext i;whnf)
          refine Evx.cq ([.ptr 2 9 0, .d (.str (bts [32]))]) (pB s (a + n1 + m2 + m3)) 2 ?_
          refine litE s hs [32] (by simp) (a + n1 + m2 + m3) (by omega) (fun m4 k4 => ?_) (fun m4 k4 => ?_)
          ·have km4 := (lit_len [32] (s.data.toList.drop (a + n1 + m2 + m3))).1
           have km4' := (lit_len [32] (s.data.toList.drop (a + n1 + m2 + m3))).2 () m4 k4
           rw [k4, drop_len] at km4
           have km4 : m4 ≤ s.size - (a + n1 + m2 + m3) := km4
           simp only [List.length_cons, List.length_nil] at km4'
           rw [thenOk k4, List.drop_drop] at hok hno
           replace hok := rebOk (P := fun v p => Evx (fun i => K i (.ret [.d (Fm.d v)]) ⟨tabB (pB s p), 2, []⟩) r) hok
           replace hno := rebNo (P := fun p => Evx (fun i => K i (.pan (wrongD p)) ⟨tabB (pB s p), 2, []⟩) r) hno
           refine Evx.tk (fT s (a + n1 + m2 + m3 + m4) (fBx op ⟨#[]⟩ v3 0 (.d .nils))) 3 ?_
           (conv=>arg 1;ext i;whnf)
           refine Evx.cq ([.ptr 2 9 0]) (pB s (a + n1 + m2 + m3 + m4)) 2 ?_
           refine endE s hs (a + n1 + m2 + m3 + m4) (by omega) (fun v5 m5 k5 => ?_) (fun v5 m5 k5 hdig => ?_) (fun m5 k5 => ?_)
           ·have km5 := end_len (s.data.toList.drop (a + n1 + m2 + m3 + m4))
            rw [k5, drop_len] at km5
            have km5 : m5 ≤ s.size - (a + n1 + m2 + m3 + m4) := km5
            rw [thenOk k5, List.drop_drop] at hok hno
            replace hok := rebOk (P := fun v p => Evx (fun i => K i (.ret [.d (Fm.d v)]) ⟨tabB (pB s p), 2, []⟩) r) hok
            replace hno := rebNo (P := fun p => Evx (fun i => K i (.pan (wrongD p)) ⟨tabB (pB s p), 2, []⟩) r) hno
            replace hb : a + n1 + m2 + m3 + m4 + m5 ≤ s.size := by omega
            refine Evx.tk (fT s (a + n1 + m2 + m3 + m4 + m5) (fBx op ⟨#[]⟩ v3 0 (.d .nils))) 3 ?_
            (conv=>arg 1;ext i;whnf)
            refine Evx.cq ([.ptr 2 9 0, .d (.str (bts [40]))]) (pB s (a + n1 + m2 + m3 + m4 + m5)) 2 ?_
            refine litE s hs [40] (by simp) (a + n1 + m2 + m3 + m4 + m5) hb (fun n2 h2 => ?_) (fun n2 h2 => ?_)
            ·have hn2 := (lit_len [40] (s.data.toList.drop (a + n1 + m2 + m3 + m4 + m5))).1
             have hn2' := (lit_len [40] (s.data.toList.drop (a + n1 + m2 + m3 + m4 + m5))).2 () n2 h2
             rw [h2, drop_len] at hn2
             have hn2 : n2 ≤ s.size - (a + n1 + m2 + m3 + m4 + m5) := hn2
             simp only [List.length_cons, List.length_nil] at hn2'
             have hok2 : ∀ ks n, restS (F'') (d) (1) true (s.data.toList.drop ((a + n1 + m2 + m3 + m4 + m5) + n2)) = .ok ks n → Evx (fun i => K i (.ret [.d (Fm.node (op) (⟨#[]⟩) [] (v3) (v5) ks).d]) ⟨tabB (pB s ((a + n1 + m2 + m3 + m4 + m5) + n2 + n)), 2, []⟩) r := fun ks n h => by
              have := hok (Fm.node (op) (⟨#[]⟩) [] (v3) (v5) ks) (n2 + n) (by rw [body_rest _ _ _ _ _ _ _ _ (by omega), thenOk h2, List.drop_drop, h]; rfl)
              rwa [← Nat.add_assoc] at this
             have hno2 : ∀ n, restS (F'') (d) (1) true (s.data.toList.drop ((a + n1 + m2 + m3 + m4 + m5) + n2)) = .no n → Evx (fun i => K i (.pan (wrongD ((a + n1 + m2 + m3 + m4 + m5) + n2 + n))) ⟨tabB (pB s ((a + n1 + m2 + m3 + m4 + m5) + n2 + n)), 2, []⟩) r := fun n h => by
              have := hno (n2 + n) (by rw [body_rest _ _ _ _ _ _ _ _ (by omega), thenOk h2, List.drop_drop, h]; rfl)
              rwa [← Nat.add_assoc] at this
             refine Evx.tk (fT s ((a + n1 + m2 + m3 + m4 + m5) + n2) (fBx (op) (⟨#[]⟩) (v3) (v5) (.d .nils))) 3 ?_
             (conv=>arg 1;ext i;whnf)
             (refine Evx.bool (fun h => ?_) (fun h => ?_) <;> (try simp only [bbs] at h) <;> (first | (exfalso; omega) | exact absurd trivial h | (conv=>arg 1;ext i;whnf)))
             obtain ⟨e, he⟩ : ∃ e, e = (a + n1 + m2 + m3 + m4 + m5) + n2 := ⟨_, rfl⟩
             rw [← he] at hok2 hno2 ⊢
             have hes : e ≤ s.size := by omega
             refine Evx.loopB hint43 29 (α := { p : List Fm × Nat // p.1.length ≤ (1) ∧ e + p.2 ≤ s.size ∧ restS (F'') (d) (1) true (s.data.toList.drop e) = (mapP (fun ks => p.1 ++ ks) (restS (F'') (d) ((1) - p.1.length) p.1.isEmpty (s.data.toList.drop (e + p.2)))).up p.2 }) (fun p => [some (.ptr 2 9 0), some (.d (.int .i64 (d))), some (.ptr 3 4 0), some (.ptr 3 5 0), some (.d (.int .i64 ((1) : Nat))), some (.d (.int .i64 (p.1.1.length : Nat)))]) (fun p => [some zeroBox, some (fBx (op) (⟨#[]⟩) (v3) (v5) (.own (.box 3 5 5) 6 (fms p.1.1)))]) (fun p => pB s (e + p.1.2)) 3 [] (fun p => (1) - p.1.1.length) (fun _ => r) ?_ ⟨([], 0), by simp, hes, by dsimp only [List.length_nil, List.isEmpty_nil]; rw [items_id, up_zero]; rfl⟩ (fun _ => rfl) (fun _ => rfl) (fun _ => rfl) (fun _ => by kernel_rfl) (fun _ => ?_)
             ·rintro ⟨⟨zs, j⟩, hl, hj, hinv⟩ L ih2; dsimp only at hl hj hinv ih2 ⊢; (conv=>arg 1;ext i;whnf)
              (refine Evx.bool (fun h => ?_) (fun h => ?_) <;> (try simp only [bbs] at h) <;> (first | (exfalso; omega) | exact absurd trivial h | (conv=>arg 1;ext i;whnf)))
              ·obtain ⟨m, hm⟩ : ∃ m, (1) - zs.length = m + 1 := ⟨(1) - zs.length - 1, by omega⟩
               rw [hm] at hinv
               rcases Nat.eq_zero_or_pos zs.length with hz | hz
               ·have hze : zs = [] := List.eq_nil_of_length_eq_zero hz
                have hie : zs.isEmpty = true := by rw [hze]; rfl
                rw [hie, rest_true (F'') (d) m s.data.toList (e + j)] at hinv
                (refine Evx.bool (fun h => ?_) (fun h => ?_) <;> (try simp only [bbs] at h) <;> (first | (exfalso; omega) | exact absurd trivial h | (conv=>arg 1;ext i;whnf)))
                refine Evx.cq ([.ptr 2 9 0, .d (.int .i64 (d))]) (pB s (e + j + 0)) 2 ?_
                refine ih (F'') (by omega) s hs (e + j + 0) (by omega) (d) (by omega) (by omega) (by omega) _ _ _ (fun v n4 h4 => ?_) (fun n4 h4 => ?_)
                ·have hn4 := ((fm_len (F'')).1 (d) (s.data.toList.drop (e + j + 0))).1
                 rw [h4, drop_len] at hn4
                 have hn4 : n4 ≤ s.size - (e + j + 0) := hn4
                 rw [thenOk h4, List.drop_drop] at hinv
                 refine Evx.tk (fT s (e + j + 0 + n4) (fBx (op) (⟨#[]⟩) (v3) (v5) (.own (.box 3 5 5) 6 (fms zs)))) 3 ?_
                 (conv=>arg 1;ext i;whnf)
                 refine Evx.appd (m := ((fms zs).length + 1) * 89) rfl (by rw [fms_len]; omega) ?_
                 (conv=>arg 1;ext i;whnf)
                 refine Evx.int (wrap_succ (n := zs.length) (by omega)) ?_
                 (conv=>arg 1;ext i;whnf)
                 refine ih2 ⟨(zs ++ [v], j + 0 + n4), ?_, ?_, ?_⟩ _ ?_ ?_ (fun _ => ?_)
                 ·dsimp only; rw [List.length_append, List.length_singleton]; omega
                 ·dsimp only; omega
                 ·dsimp only
                  rw [hinv, List.length_append, List.length_singleton, show (1) - (zs.length + 1) = m by omega, show (zs ++ [v]).isEmpty = false by cases zs <;> rfl, show e + (j + 0 + n4) = e + j + 0 + n4 by omega]
                  cases restS (F'') (d) m false (s.data.toList.drop (e + j + 0 + n4)) <;> simp [mapP, Rd.up, Nat.add_assoc]
                 ·dsimp only; rw [List.length_append, List.length_singleton]; omega
                 ·intro i
                  rw [fms_one, List.length_append, List.length_singleton]
                  kernel_rfl
                 ·rw [show e + (j + 0 + n4) = e + j + 0 + n4 by omega]
                  exact tabC
                ·have hK := hno2 (j + 0 + n4) (by rw [hinv, thenNo h4]; simp [mapP, Rd.up, Nat.add_assoc])
                 rw [← Nat.add_assoc, ← Nat.add_assoc] at hK
                 (conv=>arg 1;ext i;whnf)
                 exact Evx.fq (hK)
               ·(try (exfalso; omega))
                all_goals
                 have hze : zs.isEmpty = false := by cases zs with
                  | nil => simp at hz
                  | cons a b => rfl
                 rw [hze, rest_false (F'') (d) m (s.data.toList.drop (e + j))] at hinv
                 (refine Evx.bool (fun h => ?_) (fun h => ?_) <;> (try simp only [bbs] at h) <;> (first | (exfalso; omega) | exact absurd trivial h | (conv=>arg 1;ext i;whnf)))
                 refine Evx.cq ([.ptr 2 9 0, .d (.str (bts [44, 32]))]) (pB s (e + j)) 2 ?_
                 refine litE s hs [44, 32] (by simp) (e + j) hj (fun n3 h3 => ?_) (fun n3 h3 => ?_)
                 ·have hn3 := (lit_len [44, 32] (s.data.toList.drop (e + j))).1
                  rw [h3, drop_len] at hn3
                  have hn3 : n3 ≤ s.size - (e + j) := hn3
                  rw [thenOk h3, List.drop_drop] at hinv
                  refine Evx.tk (fT s (e + j + n3) (fBx (op) (⟨#[]⟩) (v3) (v5) (.own (.box 3 5 5) 6 (fms zs)))) 3 ?_
                  (conv=>arg 1;ext i;whnf)
                  refine Evx.cq ([.ptr 2 9 0, .d (.int .i64 (d))]) (pB s (e + j + n3)) 2 ?_
                  refine ih (F'') (by omega) s hs (e + j + n3) (by omega) (d) (by omega) (by omega) (by omega) _ _ _ (fun v n4 h4 => ?_) (fun n4 h4 => ?_)
                  ·have hn4 := ((fm_len (F'')).1 (d) (s.data.toList.drop (e + j + n3))).1
                   rw [h4, drop_len] at hn4
                   have hn4 : n4 ≤ s.size - (e + j + n3) := hn4
                   rw [thenOk h4, List.drop_drop] at hinv
                   refine Evx.tk (fT s (e + j + n3 + n4) (fBx (op) (⟨#[]⟩) (v3) (v5) (.own (.box 3 5 5) 6 (fms zs)))) 3 ?_
                   (conv=>arg 1;ext i;whnf)
                   refine Evx.appd (m := ((fms zs).length + 1) * 89) rfl (by rw [fms_len]; omega) ?_
                   (conv=>arg 1;ext i;whnf)
                   refine Evx.int (wrap_succ (n := zs.length) (by omega)) ?_
                   (conv=>arg 1;ext i;whnf)
                   refine ih2 ⟨(zs ++ [v], j + n3 + n4), ?_, ?_, ?_⟩ _ ?_ ?_ (fun _ => ?_)
                   ·dsimp only; rw [List.length_append, List.length_singleton]; omega
                   ·dsimp only; omega
                   ·dsimp only
                    rw [hinv, List.length_append, List.length_singleton, show (1) - (zs.length + 1) = m by omega, show (zs ++ [v]).isEmpty = false by cases zs <;> rfl, show e + (j + n3 + n4) = e + j + n3 + n4 by omega]
                    cases restS (F'') (d) m false (s.data.toList.drop (e + j + n3 + n4)) <;> simp [mapP, Rd.up, Nat.add_assoc]
                   ·dsimp only; rw [List.length_append, List.length_singleton]; omega
                   ·intro i
                    rw [fms_one, List.length_append, List.length_singleton]
                    kernel_rfl
                   ·rw [show e + (j + n3 + n4) = e + j + n3 + n4 by omega]
                    exact tabC
                  ·have hK := hno2 (j + n3 + n4) (by rw [hinv, thenNo h4]; simp [mapP, Rd.up, Nat.add_assoc])
                   rw [← Nat.add_assoc, ← Nat.add_assoc] at hK
                   (conv=>arg 1;ext i;whnf)
                   exact Evx.fq (hK)
                 ·have hK := hno2 (j + n3) (by rw [hinv, thenNo h3]; rfl)
                  rw [← Nat.add_assoc] at hK
                  (conv=>arg 1;ext i;whnf)
                  exact Evx.fq (hK)
              ·have hm : (1) - zs.length = 0 := by omega
               rw [hm] at hinv
               rw [show restS (F'') (d) 0 zs.isEmpty (s.data.toList.drop (e + j)) = mapP (fun _ => []) (litS [41] (s.data.toList.drop (e + j))) by simp only [restS]] at hinv
               refine Evx.cq ([.ptr 2 9 0, .d (.str (bts [41]))]) (pB s (e + j)) 2 ?_
               refine litE s hs [41] (by simp) (e + j) hj (fun n4 h4 => ?_) (fun n4 h4 => ?_)
               ·have hK := hok2 zs (j + n4) (by rw [hinv, h4]; simp [mapP, Rd.up, Nat.add_assoc])
                unfold Fm.d at hK
                rw [← Nat.add_assoc] at hK
                refine Evx.tk (fT s (e + j + n4) (fBx (op) (⟨#[]⟩) (v3) (v5) (.own (.box 3 5 5) 6 (fms zs)))) 3 ?_
                (conv=>arg 1;ext i;whnf)
                exact Evx.fq (hK)
               ·have hK := hno2 (j + n4) (by rw [hinv, h4]; simp [mapP, Rd.up, Nat.add_assoc])
                rw [← Nat.add_assoc] at hK
                (conv=>arg 1;ext i;whnf)
                exact Evx.fq (hK)
             ·exact tabC
            ·have hK := hno n2 (by rw [body_rest _ _ _ _ _ _ _ _ (by omega), thenNo h2])
             (conv=>arg 1;ext i;whnf)
             exact Evx.fq (hK)
           ·have hK := hno (m5 + 0) (by rw [thenOk k5, List.drop_drop, body_rest _ _ _ _ _ _ _ _ (by omega), thenNo (lit_dig hdig _ _ (by decide))]; rfl)
            (conv=>arg 1;ext i;whnf)
            exact Evx.fq (hK)
           ·have hK := hno m5 (by rw [thenNo k5])
            (conv=>arg 1;ext i;whnf)
            exact Evx.fq (hK)
          ·have hK := hno m4 (by rw [thenNo k4])
           (conv=>arg 1;ext i;whnf)
           exact Evx.fq (hK)
         ·have hK := hno (m3 + 0) (by rw [thenOk k3, List.drop_drop, thenNo (lit_dig hdig _ _ (by decide))]; rfl)
          (conv=>arg 1;ext i;whnf)
          exact Evx.fq (hK)
         ·have hK := hno m3 (by rw [thenNo k3])
          (conv=>arg 1;ext i;whnf)
          exact Evx.fq (hK)
        ·have hK := hno m2 (by rw [thenNo k2])
         (conv=>arg 1;ext i;whnf)
         exact Evx.fq (hK)
       ·rw [if_neg (by omega)] at hok hno
        (refine Evx.bool (fun h => ?_) (fun h => ?_) <;> (try simp only [bbs] at h) <;> (first | (exfalso; omega) | exact absurd trivial h | (conv=>arg 1;ext i;whnf)))
        ·rw [if_pos (by omega)] at hok hno
         have hb : a + n1 ≤ s.size := by omega
         obtain ⟨F'', rfl⟩ : ∃ G, F' = G + 1 := ⟨F' - 1, by omega⟩
         replace hok := rebOk (P := fun v p => Evx (fun i => K i (.ret [.d (Fm.d v)]) ⟨tabB (pB s p), 2, []⟩) r) hok
         replace hno := rebNo (P := fun p => Evx (fun i => K i (.pan (wrongD p)) ⟨tabB (pB s p), 2, []⟩) r) hno
         refine Evx.cq ([.ptr 2 9 0, .d (.str (bts [40]))]) (pB s (a + n1)) 2 ?_
         refine litE s hs [40] (by simp) (a + n1) hb (fun n2 h2 => ?_) (fun n2 h2 => ?_)
         ·have hn2 := (lit_len [40] (s.data.toList.drop (a + n1))).1
          have hn2' := (lit_len [40] (s.data.toList.drop (a + n1))).2 () n2 h2
          rw [h2, drop_len] at hn2
          have hn2 : n2 ≤ s.size - (a + n1) := hn2
          simp only [List.length_cons, List.length_nil] at hn2'
          have hok2 : ∀ ks n, restS (F'') (d) (2) true (s.data.toList.drop ((a + n1) + n2)) = .ok ks n → Evx (fun i => K i (.ret [.d (Fm.node (op) (⟨#[]⟩) [] (0) (0) ks).d]) ⟨tabB (pB s ((a + n1) + n2 + n)), 2, []⟩) r := fun ks n h => by
           have := hok (Fm.node (op) (⟨#[]⟩) [] (0) (0) ks) (n2 + n) (by rw [body_rest _ _ _ _ _ _ _ _ (by omega), thenOk h2, List.drop_drop, h]; rfl)
           rwa [← Nat.add_assoc] at this
          have hno2 : ∀ n, restS (F'') (d) (2) true (s.data.toList.drop ((a + n1) + n2)) = .no n → Evx (fun i => K i (.pan (wrongD ((a + n1) + n2 + n))) ⟨tabB (pB s ((a + n1) + n2 + n)), 2, []⟩) r := fun n h => by
           have := hno (n2 + n) (by rw [body_rest _ _ _ _ _ _ _ _ (by omega), thenOk h2, List.drop_drop, h]; rfl)
           rwa [← Nat.add_assoc] at this
          refine Evx.tk (fT s ((a + n1) + n2) (fBx (op) (⟨#[]⟩) (0) (0) (.d .nils))) 3 ?_
          (conv=>arg 1;ext i;whnf)
          (refine Evx.bool (fun h => ?_) (fun h => ?_) <;> (try simp only [bbs] at h) <;> (first | (exfalso; omega) | exact absurd trivial h | (conv=>arg 1;ext i;whnf)))
          obtain ⟨e, he⟩ : ∃ e, e = (a + n1) + n2 := ⟨_, rfl⟩
          rw [← he] at hok2 hno2 ⊢
          have hes : e ≤ s.size := by omega
          refine Evx.loopB hint43 29 (α := { p : List Fm × Nat // p.1.length ≤ (2) ∧ e + p.2 ≤ s.size ∧ restS (F'') (d) (2) true (s.data.toList.drop e) = (mapP (fun ks => p.1 ++ ks) (restS (F'') (d) ((2) - p.1.length) p.1.isEmpty (s.data.toList.drop (e + p.2)))).up p.2 }) (fun p => [some (.ptr 2 9 0), some (.d (.int .i64 (d))), some (.ptr 3 4 0), some (.ptr 3 5 0), some (.d (.int .i64 ((2) : Nat))), some (.d (.int .i64 (p.1.1.length : Nat)))]) (fun p => [some zeroBox, some (fBx (op) (⟨#[]⟩) (0) (0) (.own (.box 3 5 5) 6 (fms p.1.1)))]) (fun p => pB s (e + p.1.2)) 3 [] (fun p => (2) - p.1.1.length) (fun _ => r) ?_ ⟨([], 0), by simp, hes, by dsimp only [List.length_nil, List.isEmpty_nil]; rw [items_id, up_zero]; rfl⟩ (fun _ => rfl) (fun _ => rfl) (fun _ => rfl) (fun _ => by kernel_rfl) (fun _ => ?_)
          ·rintro ⟨⟨zs, j⟩, hl, hj, hinv⟩ L ih2; dsimp only at hl hj hinv ih2 ⊢; (conv=>arg 1;ext i;whnf)
           (refine Evx.bool (fun h => ?_) (fun h => ?_) <;> (try simp only [bbs] at h) <;> (first | (exfalso; omega) | exact absurd trivial h | (conv=>arg 1;ext i;whnf)))
           ·obtain ⟨m, hm⟩ : ∃ m, (2) - zs.length = m + 1 := ⟨(2) - zs.length - 1, by omega⟩
            rw [hm] at hinv
            rcases Nat.eq_zero_or_pos zs.length with hz | hz
            ·have hze : zs = [] := List.eq_nil_of_length_eq_zero hz
             have hie : zs.isEmpty = true := by rw [hze]; rfl
             rw [hie, rest_true (F'') (d) m s.data.toList (e + j)] at hinv
             (refine Evx.bool (fun h => ?_) (fun h => ?_) <;> (try simp only [bbs] at h) <;> (first | (exfalso; omega) | exact absurd trivial h | (conv=>arg 1;ext i;whnf)))
             refine Evx.cq ([.ptr 2 9 0, .d (.int .i64 (d))]) (pB s (e + j + 0)) 2 ?_
             refine ih (F'') (by omega) s hs (e + j + 0) (by omega) (d) (by omega) (by omega) (by omega) _ _ _ (fun v n4 h4 => ?_) (fun n4 h4 => ?_)
             ·have hn4 := ((fm_len (F'')).1 (d) (s.data.toList.drop (e + j + 0))).1
              rw [h4, drop_len] at hn4
              have hn4 : n4 ≤ s.size - (e + j + 0) := hn4
              rw [thenOk h4, List.drop_drop] at hinv
              refine Evx.tk (fT s (e + j + 0 + n4) (fBx (op) (⟨#[]⟩) (0) (0) (.own (.box 3 5 5) 6 (fms zs)))) 3 ?_
              (conv=>arg 1;ext i;whnf)
              refine Evx.appd (m := ((fms zs).length + 1) * 89) rfl (by rw [fms_len]; omega) ?_
              (conv=>arg 1;ext i;whnf)
              refine Evx.int (wrap_succ (n := zs.length) (by omega)) ?_
              (conv=>arg 1;ext i;whnf)
              refine ih2 ⟨(zs ++ [v], j + 0 + n4), ?_, ?_, ?_⟩ _ ?_ ?_ (fun _ => ?_)
              ·dsimp only; rw [List.length_append, List.length_singleton]; omega
              ·dsimp only; omega
              ·dsimp only
               rw [hinv, List.length_append, List.length_singleton, show (2) - (zs.length + 1) = m by omega, show (zs ++ [v]).isEmpty = false by cases zs <;> rfl, show e + (j + 0 + n4) = e + j + 0 + n4 by omega]
               cases restS (F'') (d) m false (s.data.toList.drop (e + j + 0 + n4)) <;> simp [mapP, Rd.up, Nat.add_assoc]
              ·dsimp only; rw [List.length_append, List.length_singleton]; omega
              ·intro i
               rw [fms_one, List.length_append, List.length_singleton]
               kernel_rfl
              ·rw [show e + (j + 0 + n4) = e + j + 0 + n4 by omega]
               exact tabC
             ·have hK := hno2 (j + 0 + n4) (by rw [hinv, thenNo h4]; simp [mapP, Rd.up, Nat.add_assoc])
              rw [← Nat.add_assoc, ← Nat.add_assoc] at hK
              (conv=>arg 1;ext i;whnf)
              exact Evx.fq (hK)
            ·(try (exfalso; omega))
             all_goals
              have hze : zs.isEmpty = false := by cases zs with
               | nil => simp at hz
               | cons a b => rfl
              rw [hze, rest_false (F'') (d) m (s.data.toList.drop (e + j))] at hinv
              (refine Evx.bool (fun h => ?_) (fun h => ?_) <;> (try simp only [bbs] at h) <;> (first | (exfalso; omega) | exact absurd trivial h | (conv=>arg 1;ext i;whnf)))
              refine Evx.cq ([.ptr 2 9 0, .d (.str (bts [44, 32]))]) (pB s (e + j)) 2 ?_
              refine litE s hs [44, 32] (by simp) (e + j) hj (fun n3 h3 => ?_) (fun n3 h3 => ?_)
              ·have hn3 := (lit_len [44, 32] (s.data.toList.drop (e + j))).1
               rw [h3, drop_len] at hn3
               have hn3 : n3 ≤ s.size - (e + j) := hn3
               rw [thenOk h3, List.drop_drop] at hinv
               refine Evx.tk (fT s (e + j + n3) (fBx (op) (⟨#[]⟩) (0) (0) (.own (.box 3 5 5) 6 (fms zs)))) 3 ?_
               (conv=>arg 1;ext i;whnf)
               refine Evx.cq ([.ptr 2 9 0, .d (.int .i64 (d))]) (pB s (e + j + n3)) 2 ?_
               refine ih (F'') (by omega) s hs (e + j + n3) (by omega) (d) (by omega) (by omega) (by omega) _ _ _ (fun v n4 h4 => ?_) (fun n4 h4 => ?_)
               ·have hn4 := ((fm_len (F'')).1 (d) (s.data.toList.drop (e + j + n3))).1
                rw [h4, drop_len] at hn4
                have hn4 : n4 ≤ s.size - (e + j + n3) := hn4
                rw [thenOk h4, List.drop_drop] at hinv
                refine Evx.tk (fT s (e + j + n3 + n4) (fBx (op) (⟨#[]⟩) (0) (0) (.own (.box 3 5 5) 6 (fms zs)))) 3 ?_
                (conv=>arg 1;ext i;whnf)
                refine Evx.appd (m := ((fms zs).length + 1) * 89) rfl (by rw [fms_len]; omega) ?_
                (conv=>arg 1;ext i;whnf)
                refine Evx.int (wrap_succ (n := zs.length) (by omega)) ?_
                (conv=>arg 1;ext i;whnf)
                refine ih2 ⟨(zs ++ [v], j + n3 + n4), ?_, ?_, ?_⟩ _ ?_ ?_ (fun _ => ?_)
                ·dsimp only; rw [List.length_append, List.length_singleton]; omega
                ·dsimp only; omega
                ·dsimp only
                 rw [hinv, List.length_append, List.length_singleton, show (2) - (zs.length + 1) = m by omega, show (zs ++ [v]).isEmpty = false by cases zs <;> rfl, show e + (j + n3 + n4) = e + j + n3 + n4 by omega]
                 cases restS (F'') (d) m false (s.data.toList.drop (e + j + n3 + n4)) <;> simp [mapP, Rd.up, Nat.add_assoc]
                ·dsimp only; rw [List.length_append, List.length_singleton]; omega
                ·intro i
                 rw [fms_one, List.length_append, List.length_singleton]
                 kernel_rfl
                ·rw [show e + (j + n3 + n4) = e + j + n3 + n4 by omega]
                 exact tabC
               ·have hK := hno2 (j + n3 + n4) (by rw [hinv, thenNo h4]; simp [mapP, Rd.up, Nat.add_assoc])
                rw [← Nat.add_assoc, ← Nat.add_assoc] at hK
                (conv=>arg 1;ext i;whnf)
                exact Evx.fq (hK)
              ·have hK := hno2 (j + n3) (by rw [hinv, thenNo h3]; rfl)
               rw [← Nat.add_assoc] at hK
               (conv=>arg 1;ext i;whnf)
               exact Evx.fq (hK)
           ·have hm : (2) - zs.length = 0 := by omega
            rw [hm] at hinv
            rw [show restS (F'') (d) 0 zs.isEmpty (s.data.toList.drop (e + j)) = mapP (fun _ => []) (litS [41] (s.data.toList.drop (e + j))) by simp only [restS]] at hinv
            refine Evx.cq ([.ptr 2 9 0, .d (.str (bts [41]))]) (pB s (e + j)) 2 ?_
            refine litE s hs [41] (by simp) (e + j) hj (fun n4 h4 => ?_) (fun n4 h4 => ?_)
            ·have hK := hok2 zs (j + n4) (by rw [hinv, h4]; simp [mapP, Rd.up, Nat.add_assoc])
             unfold Fm.d at hK
             rw [← Nat.add_assoc] at hK
             refine Evx.tk (fT s (e + j + n4) (fBx (op) (⟨#[]⟩) (0) (0) (.own (.box 3 5 5) 6 (fms zs)))) 3 ?_
             (conv=>arg 1;ext i;whnf)
             exact Evx.fq (hK)
            ·have hK := hno2 (j + n4) (by rw [hinv, h4]; simp [mapP, Rd.up, Nat.add_assoc])
             rw [← Nat.add_assoc] at hK
             (conv=>arg 1;ext i;whnf)
             exact Evx.fq (hK)
          ·exact tabC
         ·have hK := hno n2 (by rw [body_rest _ _ _ _ _ _ _ _ (by omega), thenNo h2])
          (conv=>arg 1;ext i;whnf)
          exact Evx.fq (hK)
        ·rw [if_neg (by omega)] at hok hno
         (refine Evx.bool (fun h => ?_) (fun h => ?_) <;> (try simp only [bbs] at h) <;> (first | (exfalso; omega) | exact absurd trivial h | (conv=>arg 1;ext i;whnf)))
         ·rw [if_pos (by omega)] at hok hno
          have hb : a + n1 ≤ s.size := by omega
          obtain ⟨F'', rfl⟩ : ∃ G, F' = G + 1 := ⟨F' - 1, by omega⟩
          replace hok := rebOk (P := fun v p => Evx (fun i => K i (.ret [.d (Fm.d v)]) ⟨tabB (pB s p), 2, []⟩) r) hok
          replace hno := rebNo (P := fun p => Evx (fun i => K i (.pan (wrongD p)) ⟨tabB (pB s p), 2, []⟩) r) hno
          simp only [body_list F'' d op] at hok hno
          refine Evx.cq ([.ptr 2 9 0, .d (.str (bts [40]))]) (pB s (a + n1)) 2 ?_
          refine litE s hs [40] (by simp) (a + n1) hb (fun n2 h2 => ?_) (fun n2 h2 => ?_)
          ·have hn2 := (lit_len [40] (s.data.toList.drop (a + n1))).1
           have hn2' := (lit_len [40] (s.data.toList.drop (a + n1))).2 () n2 h2
           rw [h2, drop_len] at hn2
           have hn2 : n2 ≤ s.size - (a + n1) := hn2
           simp only [List.length_cons, List.length_nil] at hn2'
           rw [thenOk h2, List.drop_drop] at hok hno
           replace hok := rebOk (P := fun v p => Evx (fun i => K i (.ret [.d (Fm.d v)]) ⟨tabB (pB s p), 2, []⟩) r) hok
           replace hno := rebNo (P := fun p => Evx (fun i => K i (.pan (wrongD p)) ⟨tabB (pB s p), 2, []⟩) r) hno
           refine Evx.tk (fT s (a + n1 + n2) (fBx op ⟨#[]⟩ 0 0 (.d .nils))) 3 ?_
           (conv=>arg 1;ext i;whnf)
           (refine Evx.bool (fun h => ?_) (fun h => ?_) <;> (try simp only [bbs] at h) <;> (first | (exfalso; omega) | exact absurd trivial h | (conv=>arg 1;ext i;whnf)))
           refine Evx.cq ([.ptr 2 9 0, .d (.int .i64 d)]) (pB s (a + n1 + n2)) 2 ?_
           refine listE F'' (fun G hG => ih G (by omega)) s hs (a + n1 + n2) (by omega) d hd0 (by omega) (by omega) _ _ _ (fun h3 => ?_) (fun v n3 h3 h4 => ?_) (fun n3 h3 h4 => ?_)
           ·have hK := hok (Fm.node op ⟨#[]⟩ [] 0 0 []) 1 (by rw [if_pos h3]; rfl)
            refine Evx.tk (fT s (a + n1 + n2 + 1) (fBx op ⟨#[]⟩ 0 0 (.d .nils))) 3 ?_
            (conv=>arg 1;ext i;whnf)
            exact Evx.fq (hK)
           ·have hK := hok (Fm.node op ⟨#[]⟩ [] 0 0 v) n3 (by rw [if_neg h3, h4]; rfl)
            unfold Fm.d at hK
            refine Evx.tk (fT s (a + n1 + n2 + n3) (fBx op ⟨#[]⟩ 0 0 (.d .nils))) 3 ?_
            (conv=>arg 1;ext i;whnf)
            exact Evx.fq (hK)
           ·have hK := hno n3 (by rw [if_neg h3, h4]; rfl)
            (conv=>arg 1;ext i;whnf)
            exact Evx.fq (hK)
          ·have hK := hno n2 (by rw [thenNo h2])
           (conv=>arg 1;ext i;whnf)
           exact Evx.fq (hK)
         ·(refine Evx.bool (fun h => ?_) (fun h => ?_) <;> (try simp only [bbs] at h) <;> (first | (exfalso; omega) | exact absurd trivial h | (conv=>arg 1;ext i;whnf)))
          ·rw [if_pos (by omega)] at hok hno
           have hb : a + n1 ≤ s.size := by omega
           obtain ⟨F'', rfl⟩ : ∃ G, F' = G + 1 := ⟨F' - 1, by omega⟩
           replace hok := rebOk (P := fun v p => Evx (fun i => K i (.ret [.d (Fm.d v)]) ⟨tabB (pB s p), 2, []⟩) r) hok
           replace hno := rebNo (P := fun p => Evx (fun i => K i (.pan (wrongD p)) ⟨tabB (pB s p), 2, []⟩) r) hno
           simp only [body_list F'' d op] at hok hno
           refine Evx.cq ([.ptr 2 9 0, .d (.str (bts [40]))]) (pB s (a + n1)) 2 ?_
           refine litE s hs [40] (by simp) (a + n1) hb (fun n2 h2 => ?_) (fun n2 h2 => ?_)
           ·have hn2 := (lit_len [40] (s.data.toList.drop (a + n1))).1
            have hn2' := (lit_len [40] (s.data.toList.drop (a + n1))).2 () n2 h2
            rw [h2, drop_len] at hn2
            have hn2 : n2 ≤ s.size - (a + n1) := hn2
            simp only [List.length_cons, List.length_nil] at hn2'
            rw [thenOk h2, List.drop_drop] at hok hno
            replace hok := rebOk (P := fun v p => Evx (fun i => K i (.ret [.d (Fm.d v)]) ⟨tabB (pB s p), 2, []⟩) r) hok
            replace hno := rebNo (P := fun p => Evx (fun i => K i (.pan (wrongD p)) ⟨tabB (pB s p), 2, []⟩) r) hno
            refine Evx.tk (fT s (a + n1 + n2) (fBx op ⟨#[]⟩ 0 0 (.d .nils))) 3 ?_
            (conv=>arg 1;ext i;whnf)
            (refine Evx.bool (fun h => ?_) (fun h => ?_) <;> (try simp only [bbs] at h) <;> (first | (exfalso; omega) | exact absurd trivial h | (conv=>arg 1;ext i;whnf)))
            refine Evx.cq ([.ptr 2 9 0, .d (.int .i64 d)]) (pB s (a + n1 + n2)) 2 ?_
            refine listE F'' (fun G hG => ih G (by omega)) s hs (a + n1 + n2) (by omega) d hd0 (by omega) (by omega) _ _ _ (fun h3 => ?_) (fun v n3 h3 h4 => ?_) (fun n3 h3 h4 => ?_)
            ·have hK := hok (Fm.node op ⟨#[]⟩ [] 0 0 []) 1 (by rw [if_pos h3]; rfl)
             refine Evx.tk (fT s (a + n1 + n2 + 1) (fBx op ⟨#[]⟩ 0 0 (.d .nils))) 3 ?_
             (conv=>arg 1;ext i;whnf)
             exact Evx.fq (hK)
            ·have hK := hok (Fm.node op ⟨#[]⟩ [] 0 0 v) n3 (by rw [if_neg h3, h4]; rfl)
             unfold Fm.d at hK
             refine Evx.tk (fT s (a + n1 + n2 + n3) (fBx op ⟨#[]⟩ 0 0 (.d .nils))) 3 ?_
             (conv=>arg 1;ext i;whnf)
             exact Evx.fq (hK)
            ·have hK := hno n3 (by rw [if_neg h3, h4]; rfl)
             (conv=>arg 1;ext i;whnf)
             exact Evx.fq (hK)
           ·have hK := hno n2 (by rw [thenNo h2])
            (conv=>arg 1;ext i;whnf)
            exact Evx.fq (hK)
          ·rw [if_neg (by omega)] at hok hno
           have hb : a + n1 ≤ s.size := by omega
           obtain ⟨F'', rfl⟩ : ∃ G, F' = G + 1 := ⟨F' - 1, by omega⟩
           replace hok := rebOk (P := fun v p => Evx (fun i => K i (.ret [.d (Fm.d v)]) ⟨tabB (pB s p), 2, []⟩) r) hok
           replace hno := rebNo (P := fun p => Evx (fun i => K i (.pan (wrongD p)) ⟨tabB (pB s p), 2, []⟩) r) hno
           refine Evx.cq ([.ptr 2 9 0, .d (.str (bts [40]))]) (pB s (a + n1)) 2 ?_
           refine litE s hs [40] (by simp) (a + n1) hb (fun n2 h2 => ?_) (fun n2 h2 => ?_)
           ·have hn2 := (lit_len [40] (s.data.toList.drop (a + n1))).1
            have hn2' := (lit_len [40] (s.data.toList.drop (a + n1))).2 () n2 h2
            rw [h2, drop_len] at hn2
            have hn2 : n2 ≤ s.size - (a + n1) := hn2
            simp only [List.length_cons, List.length_nil] at hn2'
            have hok2 : ∀ ks n, restS (F'') (d) (1) true (s.data.toList.drop ((a + n1) + n2)) = .ok ks n → Evx (fun i => K i (.ret [.d (Fm.node (op) (⟨#[]⟩) [] (0) (0) ks).d]) ⟨tabB (pB s ((a + n1) + n2 + n)), 2, []⟩) r := fun ks n h => by
             have := hok (Fm.node (op) (⟨#[]⟩) [] (0) (0) ks) (n2 + n) (by rw [body_rest _ _ _ _ _ _ _ _ (by omega), thenOk h2, List.drop_drop, h]; rfl)
             rwa [← Nat.add_assoc] at this
            have hno2 : ∀ n, restS (F'') (d) (1) true (s.data.toList.drop ((a + n1) + n2)) = .no n → Evx (fun i => K i (.pan (wrongD ((a + n1) + n2 + n))) ⟨tabB (pB s ((a + n1) + n2 + n)), 2, []⟩) r := fun n h => by
             have := hno (n2 + n) (by rw [body_rest _ _ _ _ _ _ _ _ (by omega), thenOk h2, List.drop_drop, h]; rfl)
             rwa [← Nat.add_assoc] at this
            refine Evx.tk (fT s ((a + n1) + n2) (fBx (op) (⟨#[]⟩) (0) (0) (.d .nils))) 3 ?_
            (conv=>arg 1;ext i;whnf)
            (refine Evx.bool (fun h => ?_) (fun h => ?_) <;> (try simp only [bbs] at h) <;> (first | (exfalso; omega) | exact absurd trivial h | (conv=>arg 1;ext i;whnf)))
            obtain ⟨e, he⟩ : ∃ e, e = (a + n1) + n2 := ⟨_, rfl⟩
            rw [← he] at hok2 hno2 ⊢
            have hes : e ≤ s.size := by omega
            refine Evx.loopB hint43 29 (α := { p : List Fm × Nat // p.1.length ≤ (1) ∧ e + p.2 ≤ s.size ∧ restS (F'') (d) (1) true (s.data.toList.drop e) = (mapP (fun ks => p.1 ++ ks) (restS (F'') (d) ((1) - p.1.length) p.1.isEmpty (s.data.toList.drop (e + p.2)))).up p.2 }) (fun p => [some (.ptr 2 9 0), some (.d (.int .i64 (d))), some (.ptr 3 4 0), some (.ptr 3 5 0), some (.d (.int .i64 ((1) : Nat))), some (.d (.int .i64 (p.1.1.length : Nat)))]) (fun p => [some zeroBox, some (fBx (op) (⟨#[]⟩) (0) (0) (.own (.box 3 5 5) 6 (fms p.1.1)))]) (fun p => pB s (e + p.1.2)) 3 [] (fun p => (1) - p.1.1.length) (fun _ => r) ?_ ⟨([], 0), by simp, hes, by dsimp only [List.length_nil, List.isEmpty_nil]; rw [items_id, up_zero]; rfl⟩ (fun _ => rfl) (fun _ => rfl) (fun _ => rfl) (fun _ => by kernel_rfl) (fun _ => ?_)
            ·rintro ⟨⟨zs, j⟩, hl, hj, hinv⟩ L ih2; dsimp only at hl hj hinv ih2 ⊢; (conv=>arg 1;ext i;whnf)
             (refine Evx.bool (fun h => ?_) (fun h => ?_) <;> (try simp only [bbs] at h) <;> (first | (exfalso; omega) | exact absurd trivial h | (conv=>arg 1;ext i;whnf)))
             ·obtain ⟨m, hm⟩ : ∃ m, (1) - zs.length = m + 1 := ⟨(1) - zs.length - 1, by omega⟩
              rw [hm] at hinv
              rcases Nat.eq_zero_or_pos zs.length with hz | hz
              ·have hze : zs = [] := List.eq_nil_of_length_eq_zero hz
               have hie : zs.isEmpty = true := by rw [hze]; rfl
               rw [hie, rest_true (F'') (d) m s.data.toList (e + j)] at hinv
               (refine Evx.bool (fun h => ?_) (fun h => ?_) <;> (try simp only [bbs] at h) <;> (first | (exfalso; omega) | exact absurd trivial h | (conv=>arg 1;ext i;whnf)))
               refine Evx.cq ([.ptr 2 9 0, .d (.int .i64 (d))]) (pB s (e + j + 0)) 2 ?_
               refine ih (F'') (by omega) s hs (e + j + 0) (by omega) (d) (by omega) (by omega) (by omega) _ _ _ (fun v n4 h4 => ?_) (fun n4 h4 => ?_)
               ·have hn4 := ((fm_len (F'')).1 (d) (s.data.toList.drop (e + j + 0))).1
                rw [h4, drop_len] at hn4
                have hn4 : n4 ≤ s.size - (e + j + 0) := hn4
                rw [thenOk h4, List.drop_drop] at hinv
                refine Evx.tk (fT s (e + j + 0 + n4) (fBx (op) (⟨#[]⟩) (0) (0) (.own (.box 3 5 5) 6 (fms zs)))) 3 ?_
                (conv=>arg 1;ext i;whnf)
                refine Evx.appd (m := ((fms zs).length + 1) * 89) rfl (by rw [fms_len]; omega) ?_
                (conv=>arg 1;ext i;whnf)
                refine Evx.int (wrap_succ (n := zs.length) (by omega)) ?_
                (conv=>arg 1;ext i;whnf)
                refine ih2 ⟨(zs ++ [v], j + 0 + n4), ?_, ?_, ?_⟩ _ ?_ ?_ (fun _ => ?_)
                ·dsimp only; rw [List.length_append, List.length_singleton]; omega
                ·dsimp only; omega
                ·dsimp only
                 rw [hinv, List.length_append, List.length_singleton, show (1) - (zs.length + 1) = m by omega, show (zs ++ [v]).isEmpty = false by cases zs <;> rfl, show e + (j + 0 + n4) = e + j + 0 + n4 by omega]
                 cases restS (F'') (d) m false (s.data.toList.drop (e + j + 0 + n4)) <;> simp [mapP, Rd.up, Nat.add_assoc]
                ·dsimp only; rw [List.length_append, List.length_singleton]; omega
                ·intro i
                 rw [fms_one, List.length_append, List.length_singleton]
                 kernel_rfl
                ·rw [show e + (j + 0 + n4) = e + j + 0 + n4 by omega]
                 exact tabC
               ·have hK := hno2 (j + 0 + n4) (by rw [hinv, thenNo h4]; simp [mapP, Rd.up, Nat.add_assoc])
                rw [← Nat.add_assoc, ← Nat.add_assoc] at hK
                (conv=>arg 1;ext i;whnf)
                exact Evx.fq (hK)
              ·(try (exfalso; omega))
               all_goals
                have hze : zs.isEmpty = false := by cases zs with
                 | nil => simp at hz
                 | cons a b => rfl
                rw [hze, rest_false (F'') (d) m (s.data.toList.drop (e + j))] at hinv
                (refine Evx.bool (fun h => ?_) (fun h => ?_) <;> (try simp only [bbs] at h) <;> (first | (exfalso; omega) | exact absurd trivial h | (conv=>arg 1;ext i;whnf)))
                refine Evx.cq ([.ptr 2 9 0, .d (.str (bts [44, 32]))]) (pB s (e + j)) 2 ?_
                refine litE s hs [44, 32] (by simp) (e + j) hj (fun n3 h3 => ?_) (fun n3 h3 => ?_)
                ·have hn3 := (lit_len [44, 32] (s.data.toList.drop (e + j))).1
                 rw [h3, drop_len] at hn3
                 have hn3 : n3 ≤ s.size - (e + j) := hn3
                 rw [thenOk h3, List.drop_drop] at hinv
                 refine Evx.tk (fT s (e + j + n3) (fBx (op) (⟨#[]⟩) (0) (0) (.own (.box 3 5 5) 6 (fms zs)))) 3 ?_
                 (conv=>arg 1;ext i;whnf)
                 refine Evx.cq ([.ptr 2 9 0, .d (.int .i64 (d))]) (pB s (e + j + n3)) 2 ?_
                 refine ih (F'') (by omega) s hs (e + j + n3) (by omega) (d) (by omega) (by omega) (by omega) _ _ _ (fun v n4 h4 => ?_) (fun n4 h4 => ?_)
                 ·have hn4 := ((fm_len (F'')).1 (d) (s.data.toList.drop (e + j + n3))).1
                  rw [h4, drop_len] at hn4
                  have hn4 : n4 ≤ s.size - (e + j + n3) := hn4
                  rw [thenOk h4, List.drop_drop] at hinv
                  refine Evx.tk (fT s (e + j + n3 + n4) (fBx (op) (⟨#[]⟩) (0) (0) (.own (.box 3 5 5) 6 (fms zs)))) 3 ?_
                  (conv=>arg 1;ext i;whnf)
                  refine Evx.appd (m := ((fms zs).length + 1) * 89) rfl (by rw [fms_len]; omega) ?_
                  (conv=>arg 1;ext i;whnf)
                  refine Evx.int (wrap_succ (n := zs.length) (by omega)) ?_
                  (conv=>arg 1;ext i;whnf)
                  refine ih2 ⟨(zs ++ [v], j + n3 + n4), ?_, ?_, ?_⟩ _ ?_ ?_ (fun _ => ?_)
                  ·dsimp only; rw [List.length_append, List.length_singleton]; omega
                  ·dsimp only; omega
                  ·dsimp only
                   rw [hinv, List.length_append, List.length_singleton, show (1) - (zs.length + 1) = m by omega, show (zs ++ [v]).isEmpty = false by cases zs <;> rfl, show e + (j + n3 + n4) = e + j + n3 + n4 by omega]
                   cases restS (F'') (d) m false (s.data.toList.drop (e + j + n3 + n4)) <;> simp [mapP, Rd.up, Nat.add_assoc]
                  ·dsimp only; rw [List.length_append, List.length_singleton]; omega
                  ·intro i
                   rw [fms_one, List.length_append, List.length_singleton]
                   kernel_rfl
                  ·rw [show e + (j + n3 + n4) = e + j + n3 + n4 by omega]
                   exact tabC
                 ·have hK := hno2 (j + n3 + n4) (by rw [hinv, thenNo h4]; simp [mapP, Rd.up, Nat.add_assoc])
                  rw [← Nat.add_assoc, ← Nat.add_assoc] at hK
                  (conv=>arg 1;ext i;whnf)
                  exact Evx.fq (hK)
                ·have hK := hno2 (j + n3) (by rw [hinv, thenNo h3]; rfl)
                 rw [← Nat.add_assoc] at hK
                 (conv=>arg 1;ext i;whnf)
                 exact Evx.fq (hK)
             ·have hm : (1) - zs.length = 0 := by omega
              rw [hm] at hinv
              rw [show restS (F'') (d) 0 zs.isEmpty (s.data.toList.drop (e + j)) = mapP (fun _ => []) (litS [41] (s.data.toList.drop (e + j))) by simp only [restS]] at hinv
              refine Evx.cq ([.ptr 2 9 0, .d (.str (bts [41]))]) (pB s (e + j)) 2 ?_
              refine litE s hs [41] (by simp) (e + j) hj (fun n4 h4 => ?_) (fun n4 h4 => ?_)
              ·have hK := hok2 zs (j + n4) (by rw [hinv, h4]; simp [mapP, Rd.up, Nat.add_assoc])
               unfold Fm.d at hK
               rw [← Nat.add_assoc] at hK
               refine Evx.tk (fT s (e + j + n4) (fBx (op) (⟨#[]⟩) (0) (0) (.own (.box 3 5 5) 6 (fms zs)))) 3 ?_
               (conv=>arg 1;ext i;whnf)
               exact Evx.fq (hK)
              ·have hK := hno2 (j + n4) (by rw [hinv, h4]; simp [mapP, Rd.up, Nat.add_assoc])
               rw [← Nat.add_assoc] at hK
               (conv=>arg 1;ext i;whnf)
               exact Evx.fq (hK)
            ·exact tabC
           ·have hK := hno n2 (by rw [body_rest _ _ _ _ _ _ _ _ (by omega), thenNo h2])
            (conv=>arg 1;ext i;whnf)
            exact Evx.fq (hK)
  ·(conv=>arg 1;ext i;whnf)
   exact Evx.fq ((hno n1 (by rw [thenNo h1])))
end Go.Proofs.YtehkgiofchmpaaaDoor
namespace Go.Abs
open Go
set_option linter.unusedVariables false
set_option linter.unusedSimpArgs false
theorem then_assoc {α β γ : Type} (p : Rd α) (f : α → List UInt8 → Rd β) (g : β → List UInt8 → Rd γ) (l : List UInt8) : thenP (thenP p f l) g l = thenP p (fun v l' => thenP (f v l') g l') l := by
 cases p with
 | no n => rfl
 | ok v n =>
  rw [thenOk rfl, thenOk rfl]
  cases f v (l.drop n) with
  | no m => rfl
  | ok w m =>
   rw [show (Rd.ok w m).up n = .ok w (n + m) from rfl, thenOk rfl, thenOk rfl, List.drop_drop]
   cases g w (l.drop (n + m)) <;> simp [Rd.up, Nat.add_assoc]
theorem then_map {α β γ : Type} (p : Rd α) (h : α → β) (g : β → List UInt8 → Rd γ) (l : List UInt8) : thenP (mapP h p) g l = thenP p (fun v l' => g (h v) l') l := by
 cases p <;> rfl
theorem then_ok0 {α β : Type} (v : α) (g : α → List UInt8 → Rd β) (l : List UInt8) : thenP (.ok v 0) g l = g v l := by
 rw [thenOk rfl, List.drop_zero]
 cases g v l <;> simp [Rd.up]
theorem map_then {α β γ : Type} (p : Rd α) (f : α → List UInt8 → Rd β) (h : β → γ) (l : List UInt8) : mapP h (thenP p f l) = thenP p (fun v l' => mapP h (f v l')) l := by
 cases p with
 | no n => rfl
 | ok v n =>
  rw [thenOk rfl, thenOk rfl]
  cases f v (l.drop n) <;> rfl
theorem map_map2 {α β γ : Type} (f : α → β) (g : β → γ) (x : Rd α) : mapP g (mapP f x) = mapP (fun v => g (f v)) x := by cases x <;> rfl
def kq (F : Nat) (d : Int) (lo hi : Nat) : Nat → Nat → List UInt8 → Rd (List Fm)
 | 0, _, _ => .no 0
 | n + 1, c, l => thenP (fmS F d l) (fun f l => if c + 1 = hi ∨ (lo ≤ c + 1 ∧ hd l ≠ 44) then .ok [f] 0 else thenP (litS [44, 32] l) (fun _ l => mapP (fun fs => f :: fs) (kq F d lo hi n (c + 1) l)) l) l
theorem kq_succ (F : Nat) (d : Int) (lo hi n c : Nat) (l : List UInt8) : kq F d lo hi (n + 1) c l = thenP (fmS F d l) (fun f l => if c + 1 = hi ∨ (lo ≤ c + 1 ∧ hd l ≠ 44) then .ok [f] 0 else thenP (litS [44, 32] l) (fun _ l => mapP (fun fs => f :: fs) (kq F d lo hi n (c + 1) l)) l) l := rfl
def kidsQ (F : Nat) (d : Int) (lo hi : Nat) (l : List UInt8) : Rd (List Fm) := if lo = 0 ∧ hd l = 41 then .ok [] 0 else kq F d lo hi (l.length + 3) 0 l
theorem agreeQ_self {l : List UInt8} {n : Nat} (h : n ≤ l.length) : agree l l n := ⟨h, rfl, .inl rfl⟩
theorem itemsQ_succ (F : Nat) (d : Int) (l : List UInt8) : itemsS (F + 1) d l = thenP (fmS F d l) (fun f l => if hd l ≠ 44 then mapP (fun _ => [f]) (litS [41] l) else thenP (litS [44, 32] l) (fun _ l => mapP (fun fs => f :: fs) (itemsS F d l)) l) l := by simp only [itemsS]
theorem fmQ_fuel {F G : Nat} {d : Int} {l : List UInt8} (h1 : 4 * l.length < F) (h2 : 4 * l.length < G) : fmS F d l = fmS G d l := (fm_loc G).1 F d l l h2 h1 (agreeQ_self ((fm_len G).1 d l).1)
theorem then_congr {α β : Type} {p : Rd α} {f g : α → List UInt8 → Rd β} {l : List UInt8} (h : ∀ v n, p = .ok v n → f v (l.drop n) = g v (l.drop n)) : thenP p f l = thenP p g l := by
 cases p with
 | no n => rfl
 | ok v n => rw [thenOk rfl, thenOk rfl, h v n rfl]
theorem items_kq (F : Nat) (d : Int) (hi : Nat) : ∀ (n c G : Nat) (l : List UInt8), l.length < n → c + l.length + 2 < hi → 4 * l.length < F → 4 * l.length + 1 < G →
  itemsS G d l = thenP (kq F d 0 hi n c l) (fun fs l => mapP (fun _ => fs) (litS [41] l)) l
 | 0, c, G, l, h, _, _, _ => absurd h (Nat.not_lt_zero _)
 | n + 1, c, 0, l, _, _, _, h => absurd h (Nat.not_lt_zero _)
 | n + 1, c, G + 1, l, hn, hc, hF, hG => by
  rw [itemsQ_succ, kq_succ, then_assoc, fmQ_fuel (F := G) (G := F) (by omega) (by omega)]
  refine then_congr fun f m hf => ?_
  have hm := ((fm_len F).1 d l).1
  rw [hf] at hm
  have hm : m ≤ l.length := hm
  have hdl : (l.drop m).length = l.length - m := List.length_drop
  by_cases h44 : hd (l.drop m) ≠ 44
  ·rw [if_pos h44, if_pos (.inr ⟨Nat.zero_le _, h44⟩), then_ok0]
  ·rw [if_neg h44, if_neg (by rintro (h | ⟨_, h⟩); omega; exact h44 h), then_assoc]
   refine then_congr fun _ m2 h2 => ?_
   have hm2 := (lit_len [44, 32] (l.drop m)).2 _ _ h2
   have hm3 := (lit_len [44, 32] (l.drop m)).1
   rw [h2] at hm3
   have hm3 : m2 ≤ (l.drop m).length := hm3
   have hm4 : m2 = 2 := hm2
   have hdl2 : ((l.drop m).drop m2).length = (l.drop m).length - m2 := List.length_drop
   rw [items_kq F d hi n (c + 1) G ((l.drop m).drop m2) (by omega) (by omega) (by omega) (by omega), then_map, map_then]
   refine then_congr fun fs m5 _ => ?_
   rw [map_map2]
theorem map_atQ {α β : Type} (f : α → β) (x : Rd α) : (mapP f x).at = x.at := by cases x <;> rfl
theorem kq_len (F : Nat) (d : Int) (lo hi : Nat) : ∀ (n c : Nat) (l : List UInt8), (kq F d lo hi n c l).at ≤ l.length
 | 0, c, l => Nat.zero_le _
 | n + 1, c, l => by
  rw [kq_succ]
  refine then_len ((fm_len F).1 d l).1 fun v m _ => ?_
  split
  ·exact Nat.zero_le _
  ·refine then_len (lit_len [44, 32] _).1 fun _ m2 _ => ?_
   rw [map_atQ]
   exact kq_len F d lo hi n (c + 1) _
theorem kids_len (F : Nat) (d : Int) (lo hi : Nat) (l : List UInt8) : (kidsQ F d lo hi l).at ≤ l.length := by
 unfold kidsQ
 split
 ·exact Nat.zero_le _
 ·exact kq_len ..
theorem lit41 {l : List UInt8} (h : hd l = 41) : litS [41] l = .ok () 1 := by
 cases l with
 | nil => cases h
 | cons e r =>
  have : e = 41 := UInt8.toNat_inj.1 h
  subst this
  rfl
theorem body_kids (F : Nat) (d op : Int) (nm : ByteArray) (a b : Int) (k lo hi : Nat) (l : List UInt8) (hk : (k = 1 ∧ lo = 1 ∧ hi = 1) ∨ (k = 2 ∧ lo = 2 ∧ hi = 2) ∨ (k = 0 ∧ lo = 0 ∧ hi = 1099511627776)) (hl : l.length < 2 ^ 30) (hF : 4 * l.length < F + 3) :
  bodyS (F + 1) d op nm a b k l = thenP (litS [40] l) (fun _ l => mapP (fun ks => Fm.node op nm [] a b ks) (thenP (kidsQ F d lo hi l) (fun ks l => mapP (fun _ => ks) (litS [41] l)) l)) l := by
 unfold bodyS
 refine then_congr fun _ m h1 => ?_
 have hm1 := (lit_len [40] l).2 _ _ h1
 have hm1 : m = 1 := hm1
 have hm2 := (lit_len [40] l).1
 rw [h1] at hm2
 have hm2 : m ≤ l.length := hm2
 have hdl : (l.drop m).length = l.length - m := List.length_drop
 congr 1
 generalize l.drop m = r at hdl ⊢
 rcases hk with ⟨rfl, rfl, rfl⟩ | ⟨rfl, rfl, rfl⟩ | ⟨rfl, rfl, rfl⟩
 ·unfold kidsQ
  show thenP (fmS F d r) (fun f l => mapP (fun _ => [f]) (litS [41] l)) r = _
  rw [if_neg (by simp), kq_succ, then_assoc]
  refine then_congr fun f m2 _ => ?_
  rw [if_pos (.inl rfl), then_ok0]
 ·unfold kidsQ
  show thenP (fmS F d r) (fun f l => thenP (litS [44, 32] l) (fun _ l => thenP (fmS F d l) (fun g l => mapP (fun _ => [f, g]) (litS [41] l)) l) l) r = _
  rw [if_neg (by simp), kq_succ, then_assoc]
  refine then_congr fun f m2 _ => ?_
  rw [if_neg (by simp), then_assoc]
  refine then_congr fun _ m3 _ => ?_
  rw [kq_succ, then_map, then_assoc]
  refine then_congr fun g m4 _ => ?_
  rw [if_pos (.inl rfl), then_ok0]
 ·unfold kidsQ
  show (if hd r = 41 then Rd.ok [] 1 else itemsS F d r) = _
  by_cases h41 : hd r = 41
  ·rw [if_pos h41, if_pos ⟨rfl, h41⟩, then_ok0, lit41 h41]
   rfl
  ·rw [if_neg h41, if_neg (fun h => h41 h.2)]
   exact items_kq F d _ _ 0 F r (by omega) (by omega) (by omega) (by omega)
end Go.Abs
namespace Go.Proofs.YtehkgiofchmpaaaDoor
open Go Go.Abs Go.Abs.Asks
set_option linter.unusedVariables false
set_option linter.unusedSimpArgs false
set_option linter.unusedSectionVars false
variable [Asks]
def RmT (F : Nat) : Prop := ∀ (s : ByteArray) (hs : s.size < 2 ^ 30) (a : Nat) (ha : a ≤ s.size) (d : Int) (hd0 : 0 ≤ d) (hd1 : d + (s.size - a : Nat) < 2 ^ 40) (hF : 4 * (s.size - a) < F) (c : Nat) (K : Nat → Out → G → Option Out) (r : Out)
  (hok : ∀ v n, fmS F d (s.data.toList.drop a) = .ok v n → Evx (fun i => K i (.ret [.d v.d]) ⟨tabB (qB s (a + n) d false), 1, []⟩) r)
  (hno : ∀ (v : Fm) n, fmS F d (s.data.toList.drop a) = .no n → Evx (fun i => K i (.ret [.d v.d]) ⟨tabB (qB s (a + n) d true), 1, []⟩) r),
  Evx (fun i => runQ (pr i) (i - c) Out (.fn (.func 47)) [.ptr 1 9 0] ⟨tabB (qB s a d false), 1, []⟩ (K i)) r
theorem kq_id (x : Rd (List Fm)) : mapP (fun fs => [] ++ fs) x = x := by cases x <;> rfl
set_option maxHeartbeats 2000000 in
theorem rkidsE (F : Nat) (ih : RmT F) (lo hi : Nat) (hlh : lo = 0 ∧ hi = 1099511627776 ∨ lo = 1 ∧ hi = 1 ∨ lo = 2 ∧ hi = 2) (s : ByteArray) (hs : s.size < 2 ^ 30) (a : Nat) (ha : a ≤ s.size) (d : Int) (hd0 : 0 ≤ d) (hd1 : d + (s.size - a : Nat) < 2 ^ 40) (hF : 4 * (s.size - a) < F) (c : Nat) (K : Nat → Out → G → Option Out) (r : Out)
  (hok : ∀ zs n, kidsQ F d lo hi (s.data.toList.drop a) = .ok zs n → Evx (fun i => K i (.ret [.own (.res 0) 6 (fms zs)]) ⟨tabB (qB s (a + n) d false), 1, []⟩) r)
  (hno : ∀ zs n, kidsQ F d lo hi (s.data.toList.drop a) = .no n → Evx (fun i => K i (.ret [.own (.res 0) 6 (fms zs)]) ⟨tabB (qB s (a + n) d true), 1, []⟩) r) :
  Evx (fun i => runQ (pr i) (i - c) Out (.fn (.func 90)) [.ptr 1 9 0, .d (.int .i64 (lo : Int)), .d (.int .i64 (hi : Int))] ⟨tabB (qB s a d false), 1, []⟩ (K i)) r := by
 apply Evx.enter; (conv=>arg 1;ext i;whnf)
 have main : ¬ (lo = 0 ∧ hd (s.data.toList.drop a) = 41) → kidsQ F d lo hi (s.data.toList.drop a) = kq F d lo hi ((s.data.toList.drop a).length + 3) 0 (s.data.toList.drop a) := fun h => by unfold kidsQ; rw [if_neg h]
 (refine Evx.bool (fun h => ?_) (fun h => ?_) <;> (try simp only [bbs] at h) <;> (first | (exfalso; omega) | exact absurd trivial h | (conv=>arg 1;ext i;whnf)))
 ·refine Evx.cq ([.ptr 1 9 0, .d (.int .u8 ((41 : Nat) : Int))]) (qB s a d false) 1 ?_
  refine rnextE s a ha d false 41 (by decide) ?_
  (conv=>arg 1;ext i;whnf)
  (refine Evx.bool (fun h => ?_) (fun h => ?_) <;> (try simp only [bbs] at h) <;> (first | (exfalso; omega) | exact absurd trivial h | (conv=>arg 1;ext i;whnf)))
  ·have hK := hok [] 0 (by unfold kidsQ; rw [if_pos ⟨by omega, h⟩])
   exact Evx.fq (hK)
  ·have hq := main (fun hc => h hc.2)
   rw [hq] at hok hno
   have hfl : (s.data.toList.drop a).length = s.size - a := drop_len s a
   refine Evx.loopB hint90 4 (α := { p : List Fm × Nat × Bool // p.1.length ≤ p.2.1 + 1 ∧ (p.2.2 = false → p.1.length ≤ p.2.1) ∧ a + p.2.1 ≤ s.size ∧ (p.2.2 = true → kq F d lo hi ((s.data.toList.drop a).length + 3) 0 (s.data.toList.drop a) = .no p.2.1) ∧ (p.2.2 = false → kq F d lo hi ((s.data.toList.drop a).length + 3) 0 (s.data.toList.drop a) = (mapP (fun fs => p.1 ++ fs) (kq F d lo hi ((s.data.toList.drop a).length + 3 - p.1.length) p.1.length (s.data.toList.drop (a + p.2.1)))).up p.2.1) }) (fun p => [some (.ptr 1 9 0), some (.d (.int .i64 (lo : Int))), some (.d (.int .i64 (hi : Int))), some (.own (.tmp 2 7 0) 6 (fms p.1.1))]) (fun _ => []) (fun p => qB s (a + p.1.2.1) d p.1.2.2) 2 [] (fun p => if p.1.2.2 then 0 else 1 + s.size - (a + p.1.2.1)) (fun _ => r) ?_ ⟨([], 0, false), Nat.zero_le _, fun _ => Nat.le_refl _, by simpa using ha, by simp, fun _ => by dsimp only; rw [kq_id, up_zero]; rfl⟩ (fun _ => rfl) (fun _ => rfl) (fun _ => rfl) (fun _ => by kernel_rfl) (fun _ => ?_)
   ·rintro ⟨⟨zs, j, x⟩, hzl, hz2, hj, hx1, hx2⟩ L ihL
    dsimp only at hzl hz2 hj hx1 hx2 ihL ⊢
    cases x with
    | true =>
     (conv=>arg 1;ext i;whnf)
     exact Evx.fq ((hno zs j (hx1 rfl)))
    | false =>
     have hzj := hz2 rfl
     have hinv := hx2 rfl
     obtain ⟨k, hk⟩ : ∃ k, (s.data.toList.drop a).length + 3 - zs.length = k + 1 := ⟨(s.data.toList.drop a).length + 2 - zs.length, by omega⟩
     rw [hk, kq_succ F d lo hi k] at hinv
     (conv=>arg 1;ext i;whnf)
     refine Evx.cq ([.ptr 1 9 0]) (qB s (a + j) d false) 1 ?_
     refine ih s hs (a + j) hj d hd0 (by omega) (by omega) _ _ _ (fun v n1 h1 => ?_) (fun v n1 h1 => ?_)
     ·have hn1 := ((fm_len F).1 d (s.data.toList.drop (a + j))).1
      have hb1 := ((fm_len F).1 d (s.data.toList.drop (a + j))).2 v n1 h1
      rw [h1, drop_len] at hn1
      have hn1 : n1 ≤ s.size - (a + j) := hn1
      have hv1 := v.bulk_pos
      rw [thenOk h1, List.drop_drop] at hinv
      (conv=>arg 1;ext i;whnf)
      refine Evx.appd (m := ((fms zs).length + 1) * 89) rfl (by rw [fms_len]; omega) ?_
      (conv=>arg 1;ext i;whnf)
      have stop : (zs.length + 1 = hi ∨ (lo ≤ zs.length + 1 ∧ hd (s.data.toList.drop (a + j + n1)) ≠ 44)) → Evx (fun i => K i (.ret [.own (.res 0) 6 (fms zs ++ [[.int .i64 v.op, .str v.nm, .sl 3 (refs v.as), .int .i64 v.fr, .int .i64 v.to, .sl 6 (fms v.ks)]])]) ⟨tabB (qB s (a + j + n1) d false), 1, []⟩) r := fun h => by
       have hK := hok (zs ++ [v]) (j + n1) (by rw [hinv, if_pos h]; simp [mapP, Rd.up])
       rwa [← Nat.add_assoc, fms_one] at hK
      have more : ¬ (zs.length + 1 = hi ∨ (lo ≤ zs.length + 1 ∧ hd (s.data.toList.drop (a + j + n1)) ≠ 44)) → kq F d lo hi ((s.data.toList.drop a).length + 3) 0 (s.data.toList.drop a) = (mapP (fun fs => zs ++ fs) ((thenP (litS [44, 32] (s.data.toList.drop (a + j + n1))) (fun _ l => mapP (fun fs => v :: fs) (kq F d lo hi k (zs.length + 1) l)) (s.data.toList.drop (a + j + n1))).up n1)).up j := fun h => by
       rw [hinv, if_neg h]
      (refine Evx.bool (fun h => ?_) (fun h => ?_) <;> (try simp only [bbs] at h) <;> (first | (exfalso; omega) | exact absurd trivial h | (conv=>arg 1;ext i;whnf)))
      ·simp only [List.length_append, fms_len, List.length_cons, List.length_nil] at h
       exact Evx.fq ((stop (.inl (by omega))))
      ·simp only [List.length_append, fms_len, List.length_cons, List.length_nil] at h
       have hnh : ¬ zs.length + 1 = hi := by omega
       (refine Evx.bool (fun h => ?_) (fun h => ?_) <;> rw [hold_eq] at h <;> (first | rw [decide_eq_true_eq] at h | rw [decide_eq_false_iff_not] at h) <;> (conv=>arg 1;ext i;whnf))
       ·simp only [List.length_append, fms_len, List.length_cons, List.length_nil] at h
        refine Evx.cq ([.ptr 1 9 0, .d (.int .u8 ((44 : Nat) : Int))]) (qB s (a + j + n1) d false) 1 ?_
        refine rnextE s (a + j + n1) (by omega) d false 44 (by decide) ?_
        (conv=>arg 1;ext i;whnf)
        (refine Evx.bool (fun h => ?_) (fun h => ?_) <;> (try simp only [bbs] at h) <;> (first | (exfalso; omega) | exact absurd trivial h | (conv=>arg 1;ext i;whnf)))
        ·exact Evx.fq ((stop (.inr ⟨by omega, h⟩)))
        ·have hmore := more (by rintro (hc | ⟨_, hc⟩); exact hnh hc; exact hc h)
         refine Evx.cq ([.ptr 1 9 0, .d (.str (bts [44, 32]))]) (qB s (a + j + n1) d false) 1 ?_
         refine rlitE s hs [44, 32] (by simp) (by decide) (a + j + n1) (by omega) d (fun n4 h4 => ?_) (fun n4 h4 => ?_)
         ·have hn4 := (lit_len [44, 32] (s.data.toList.drop (a + j + n1))).1
          have hn5 := (lit_len [44, 32] (s.data.toList.drop (a + j + n1))).2 _ _ h4
          have hn5 : n4 = 2 := hn5
          rw [h4, drop_len] at hn4
          have hn4 : n4 ≤ s.size - (a + j + n1) := hn4
          rw [thenOk h4, List.drop_drop] at hmore
          (conv=>arg 1;ext i;whnf)
          refine ihL ⟨(zs ++ [v], j + n1 + n4, false), ?_, ?_, ?_, by simp, fun _ => ?_⟩ _ ?_ ?_ (fun _ => ?_)
          ·dsimp only; rw [List.length_append, List.length_singleton]; omega
          ·intro _; dsimp only; rw [List.length_append, List.length_singleton]; omega
          ·dsimp only; omega
          ·dsimp only
           rw [hmore, List.length_append, List.length_singleton, show (s.data.toList.drop a).length + 3 - (zs.length + 1) = k by omega, show a + (j + n1 + n4) = a + j + n1 + n4 by omega]
           cases kq F d lo hi k (zs.length + 1) (s.data.toList.drop (a + j + n1 + n4)) <;> simp [mapP, Rd.up, Nat.add_assoc]
          ·dsimp only; rw [if_neg (by simp), if_neg (by simp)]; omega
          ·intro i
           rw [fms_one]
           kernel_rfl
          ·refine Eq.trans ?_ (congrArg (fun m => tabB (qB s m d false)) (show a + j + n1 + n4 = a + (j + n1 + n4) by omega))
           exact tabC
         ·have hn4 := (lit_len [44, 32] (s.data.toList.drop (a + j + n1))).1
          rw [h4, drop_len] at hn4
          have hn4 : n4 ≤ s.size - (a + j + n1) := hn4
          (conv=>arg 1;ext i;whnf)
          refine ihL ⟨(zs ++ [v], j + n1 + n4, true), ?_, by simp, ?_, fun _ => ?_, by simp⟩ _ ?_ ?_ (fun _ => ?_)
          ·dsimp only; rw [List.length_append, List.length_singleton]; omega
          ·dsimp only; omega
          ·dsimp only; rw [hmore, thenNo h4]; simp [mapP, Rd.up, Nat.add_assoc]
          ·dsimp only; rw [if_pos rfl, if_neg (by simp)]; omega
          ·intro i
           rw [fms_one]
           kernel_rfl
          ·refine Eq.trans ?_ (congrArg (fun m => tabB (qB s m d true)) (show a + j + n1 + n4 = a + (j + n1 + n4) by omega))
           exact tabC
       ·simp only [List.length_append, fms_len, List.length_cons, List.length_nil] at h
        have hmore := more (by rintro (hc | ⟨hc, _⟩); exact hnh hc; omega)
        refine Evx.cq ([.ptr 1 9 0, .d (.str (bts [44, 32]))]) (qB s (a + j + n1) d false) 1 ?_
        refine rlitE s hs [44, 32] (by simp) (by decide) (a + j + n1) (by omega) d (fun n4 h4 => ?_) (fun n4 h4 => ?_)
        ·have hn4 := (lit_len [44, 32] (s.data.toList.drop (a + j + n1))).1
         have hn5 := (lit_len [44, 32] (s.data.toList.drop (a + j + n1))).2 _ _ h4
         have hn5 : n4 = 2 := hn5
         rw [h4, drop_len] at hn4
         have hn4 : n4 ≤ s.size - (a + j + n1) := hn4
         rw [thenOk h4, List.drop_drop] at hmore
         (conv=>arg 1;ext i;whnf)
         refine ihL ⟨(zs ++ [v], j + n1 + n4, false), ?_, ?_, ?_, by simp, fun _ => ?_⟩ _ ?_ ?_ (fun _ => ?_)
         ·dsimp only; rw [List.length_append, List.length_singleton]; omega
         ·intro _; dsimp only; rw [List.length_append, List.length_singleton]; omega
         ·dsimp only; omega
         ·dsimp only
          rw [hmore, List.length_append, List.length_singleton, show (s.data.toList.drop a).length + 3 - (zs.length + 1) = k by omega, show a + (j + n1 + n4) = a + j + n1 + n4 by omega]
          cases kq F d lo hi k (zs.length + 1) (s.data.toList.drop (a + j + n1 + n4)) <;> simp [mapP, Rd.up, Nat.add_assoc]
         ·dsimp only; rw [if_neg (by simp), if_neg (by simp)]; omega
         ·intro i
          rw [fms_one]
          kernel_rfl
         ·refine Eq.trans ?_ (congrArg (fun m => tabB (qB s m d false)) (show a + j + n1 + n4 = a + (j + n1 + n4) by omega))
          exact tabC
        ·have hn4 := (lit_len [44, 32] (s.data.toList.drop (a + j + n1))).1
         rw [h4, drop_len] at hn4
         have hn4 : n4 ≤ s.size - (a + j + n1) := hn4
         (conv=>arg 1;ext i;whnf)
         refine ihL ⟨(zs ++ [v], j + n1 + n4, true), ?_, by simp, ?_, fun _ => ?_, by simp⟩ _ ?_ ?_ (fun _ => ?_)
         ·dsimp only; rw [List.length_append, List.length_singleton]; omega
         ·dsimp only; omega
         ·dsimp only; rw [hmore, thenNo h4]; simp [mapP, Rd.up, Nat.add_assoc]
         ·dsimp only; rw [if_pos rfl, if_neg (by simp)]; omega
         ·intro i
          rw [fms_one]
          kernel_rfl
         ·refine Eq.trans ?_ (congrArg (fun m => tabB (qB s m d true)) (show a + j + n1 + n4 = a + (j + n1 + n4) by omega))
          exact tabC
     ·have hn1 := ((fm_len F).1 d (s.data.toList.drop (a + j))).1
      rw [h1, drop_len] at hn1
      have hn1 : n1 ≤ s.size - (a + j) := hn1
      have hK := hno (zs ++ [v]) (j + n1) (by rw [hinv, thenNo h1]; rfl)
      rw [← Nat.add_assoc, fms_one] at hK
      (conv=>arg 1;ext i;whnf)
      refine Evx.appd (m := ((fms zs).length + 1) * 89) rfl (by rw [fms_len]; omega) ?_
      (conv=>arg 1;ext i;whnf)
      exact Evx.fq (hK)
   ·exact tabC
 ·have hq := main (fun hc => by omega)
  rw [hq] at hok hno
  have hfl : (s.data.toList.drop a).length = s.size - a := drop_len s a
  refine Evx.loopB hint90 4 (α := { p : List Fm × Nat × Bool // p.1.length ≤ p.2.1 + 1 ∧ (p.2.2 = false → p.1.length ≤ p.2.1) ∧ a + p.2.1 ≤ s.size ∧ (p.2.2 = true → kq F d lo hi ((s.data.toList.drop a).length + 3) 0 (s.data.toList.drop a) = .no p.2.1) ∧ (p.2.2 = false → kq F d lo hi ((s.data.toList.drop a).length + 3) 0 (s.data.toList.drop a) = (mapP (fun fs => p.1 ++ fs) (kq F d lo hi ((s.data.toList.drop a).length + 3 - p.1.length) p.1.length (s.data.toList.drop (a + p.2.1)))).up p.2.1) }) (fun p => [some (.ptr 1 9 0), some (.d (.int .i64 (lo : Int))), some (.d (.int .i64 (hi : Int))), some (.own (.tmp 2 7 0) 6 (fms p.1.1))]) (fun _ => []) (fun p => qB s (a + p.1.2.1) d p.1.2.2) 2 [] (fun p => if p.1.2.2 then 0 else 1 + s.size - (a + p.1.2.1)) (fun _ => r) ?_ ⟨([], 0, false), Nat.zero_le _, fun _ => Nat.le_refl _, by simpa using ha, by simp, fun _ => by dsimp only; rw [kq_id, up_zero]; rfl⟩ (fun _ => rfl) (fun _ => rfl) (fun _ => rfl) (fun _ => by kernel_rfl) (fun _ => ?_)
  ·rintro ⟨⟨zs, j, x⟩, hzl, hz2, hj, hx1, hx2⟩ L ihL
   dsimp only at hzl hz2 hj hx1 hx2 ihL ⊢
   cases x with
   | true =>
    (conv=>arg 1;ext i;whnf)
    exact Evx.fq ((hno zs j (hx1 rfl)))
   | false =>
    have hzj := hz2 rfl
    have hinv := hx2 rfl
    obtain ⟨k, hk⟩ : ∃ k, (s.data.toList.drop a).length + 3 - zs.length = k + 1 := ⟨(s.data.toList.drop a).length + 2 - zs.length, by omega⟩
    rw [hk, kq_succ F d lo hi k] at hinv
    (conv=>arg 1;ext i;whnf)
    refine Evx.cq ([.ptr 1 9 0]) (qB s (a + j) d false) 1 ?_
    refine ih s hs (a + j) hj d hd0 (by omega) (by omega) _ _ _ (fun v n1 h1 => ?_) (fun v n1 h1 => ?_)
    ·have hn1 := ((fm_len F).1 d (s.data.toList.drop (a + j))).1
     have hb1 := ((fm_len F).1 d (s.data.toList.drop (a + j))).2 v n1 h1
     rw [h1, drop_len] at hn1
     have hn1 : n1 ≤ s.size - (a + j) := hn1
     have hv1 := v.bulk_pos
     rw [thenOk h1, List.drop_drop] at hinv
     (conv=>arg 1;ext i;whnf)
     refine Evx.appd (m := ((fms zs).length + 1) * 89) rfl (by rw [fms_len]; omega) ?_
     (conv=>arg 1;ext i;whnf)
     have stop : (zs.length + 1 = hi ∨ (lo ≤ zs.length + 1 ∧ hd (s.data.toList.drop (a + j + n1)) ≠ 44)) → Evx (fun i => K i (.ret [.own (.res 0) 6 (fms zs ++ [[.int .i64 v.op, .str v.nm, .sl 3 (refs v.as), .int .i64 v.fr, .int .i64 v.to, .sl 6 (fms v.ks)]])]) ⟨tabB (qB s (a + j + n1) d false), 1, []⟩) r := fun h => by
      have hK := hok (zs ++ [v]) (j + n1) (by rw [hinv, if_pos h]; simp [mapP, Rd.up])
      rwa [← Nat.add_assoc, fms_one] at hK
     have more : ¬ (zs.length + 1 = hi ∨ (lo ≤ zs.length + 1 ∧ hd (s.data.toList.drop (a + j + n1)) ≠ 44)) → kq F d lo hi ((s.data.toList.drop a).length + 3) 0 (s.data.toList.drop a) = (mapP (fun fs => zs ++ fs) ((thenP (litS [44, 32] (s.data.toList.drop (a + j + n1))) (fun _ l => mapP (fun fs => v :: fs) (kq F d lo hi k (zs.length + 1) l)) (s.data.toList.drop (a + j + n1))).up n1)).up j := fun h => by
      rw [hinv, if_neg h]
     (refine Evx.bool (fun h => ?_) (fun h => ?_) <;> (try simp only [bbs] at h) <;> (first | (exfalso; omega) | exact absurd trivial h | (conv=>arg 1;ext i;whnf)))
     ·simp only [List.length_append, fms_len, List.length_cons, List.length_nil] at h
      exact Evx.fq ((stop (.inl (by omega))))
     ·simp only [List.length_append, fms_len, List.length_cons, List.length_nil] at h
      have hnh : ¬ zs.length + 1 = hi := by omega
      (refine Evx.bool (fun h => ?_) (fun h => ?_) <;> rw [hold_eq] at h <;> (first | rw [decide_eq_true_eq] at h | rw [decide_eq_false_iff_not] at h) <;> (conv=>arg 1;ext i;whnf))
      ·simp only [List.length_append, fms_len, List.length_cons, List.length_nil] at h
       refine Evx.cq ([.ptr 1 9 0, .d (.int .u8 ((44 : Nat) : Int))]) (qB s (a + j + n1) d false) 1 ?_
       refine rnextE s (a + j + n1) (by omega) d false 44 (by decide) ?_
       (conv=>arg 1;ext i;whnf)
       (refine Evx.bool (fun h => ?_) (fun h => ?_) <;> (try simp only [bbs] at h) <;> (first | (exfalso; omega) | exact absurd trivial h | (conv=>arg 1;ext i;whnf)))
       ·exact Evx.fq ((stop (.inr ⟨by omega, h⟩)))
       ·have hmore := more (by rintro (hc | ⟨_, hc⟩); exact hnh hc; exact hc h)
        refine Evx.cq ([.ptr 1 9 0, .d (.str (bts [44, 32]))]) (qB s (a + j + n1) d false) 1 ?_
        refine rlitE s hs [44, 32] (by simp) (by decide) (a + j + n1) (by omega) d (fun n4 h4 => ?_) (fun n4 h4 => ?_)
        ·have hn4 := (lit_len [44, 32] (s.data.toList.drop (a + j + n1))).1
         have hn5 := (lit_len [44, 32] (s.data.toList.drop (a + j + n1))).2 _ _ h4
         have hn5 : n4 = 2 := hn5
         rw [h4, drop_len] at hn4
         have hn4 : n4 ≤ s.size - (a + j + n1) := hn4
         rw [thenOk h4, List.drop_drop] at hmore
         (conv=>arg 1;ext i;whnf)
         refine ihL ⟨(zs ++ [v], j + n1 + n4, false), ?_, ?_, ?_, by simp, fun _ => ?_⟩ _ ?_ ?_ (fun _ => ?_)
         ·dsimp only; rw [List.length_append, List.length_singleton]; omega
         ·intro _; dsimp only; rw [List.length_append, List.length_singleton]; omega
         ·dsimp only; omega
         ·dsimp only
          rw [hmore, List.length_append, List.length_singleton, show (s.data.toList.drop a).length + 3 - (zs.length + 1) = k by omega, show a + (j + n1 + n4) = a + j + n1 + n4 by omega]
          cases kq F d lo hi k (zs.length + 1) (s.data.toList.drop (a + j + n1 + n4)) <;> simp [mapP, Rd.up, Nat.add_assoc]
         ·dsimp only; rw [if_neg (by simp), if_neg (by simp)]; omega
         ·intro i
          rw [fms_one]
          kernel_rfl
         ·refine Eq.trans ?_ (congrArg (fun m => tabB (qB s m d false)) (show a + j + n1 + n4 = a + (j + n1 + n4) by omega))
          exact tabC
        ·have hn4 := (lit_len [44, 32] (s.data.toList.drop (a + j + n1))).1
         rw [h4, drop_len] at hn4
         have hn4 : n4 ≤ s.size - (a + j + n1) := hn4
         (conv=>arg 1;ext i;whnf)
         refine ihL ⟨(zs ++ [v], j + n1 + n4, true), ?_, by simp, ?_, fun _ => ?_, by simp⟩ _ ?_ ?_ (fun _ => ?_)
         ·dsimp only; rw [List.length_append, List.length_singleton]; omega
         ·dsimp only; omega
         ·dsimp only; rw [hmore, thenNo h4]; simp [mapP, Rd.up, Nat.add_assoc]
         ·dsimp only; rw [if_pos rfl, if_neg (by simp)]; omega
         ·intro i
          rw [fms_one]
          kernel_rfl
         ·refine Eq.trans ?_ (congrArg (fun m => tabB (qB s m d true)) (show a + j + n1 + n4 = a + (j + n1 + n4) by omega))
          exact tabC
      ·simp only [List.length_append, fms_len, List.length_cons, List.length_nil] at h
       have hmore := more (by rintro (hc | ⟨hc, _⟩); exact hnh hc; omega)
       refine Evx.cq ([.ptr 1 9 0, .d (.str (bts [44, 32]))]) (qB s (a + j + n1) d false) 1 ?_
       refine rlitE s hs [44, 32] (by simp) (by decide) (a + j + n1) (by omega) d (fun n4 h4 => ?_) (fun n4 h4 => ?_)
       ·have hn4 := (lit_len [44, 32] (s.data.toList.drop (a + j + n1))).1
        have hn5 := (lit_len [44, 32] (s.data.toList.drop (a + j + n1))).2 _ _ h4
        have hn5 : n4 = 2 := hn5
        rw [h4, drop_len] at hn4
        have hn4 : n4 ≤ s.size - (a + j + n1) := hn4
        rw [thenOk h4, List.drop_drop] at hmore
        (conv=>arg 1;ext i;whnf)
        refine ihL ⟨(zs ++ [v], j + n1 + n4, false), ?_, ?_, ?_, by simp, fun _ => ?_⟩ _ ?_ ?_ (fun _ => ?_)
        ·dsimp only; rw [List.length_append, List.length_singleton]; omega
        ·intro _; dsimp only; rw [List.length_append, List.length_singleton]; omega
        ·dsimp only; omega
        ·dsimp only
         rw [hmore, List.length_append, List.length_singleton, show (s.data.toList.drop a).length + 3 - (zs.length + 1) = k by omega, show a + (j + n1 + n4) = a + j + n1 + n4 by omega]
         cases kq F d lo hi k (zs.length + 1) (s.data.toList.drop (a + j + n1 + n4)) <;> simp [mapP, Rd.up, Nat.add_assoc]
        ·dsimp only; rw [if_neg (by simp), if_neg (by simp)]; omega
        ·intro i
         rw [fms_one]
         kernel_rfl
        ·refine Eq.trans ?_ (congrArg (fun m => tabB (qB s m d false)) (show a + j + n1 + n4 = a + (j + n1 + n4) by omega))
         exact tabC
       ·have hn4 := (lit_len [44, 32] (s.data.toList.drop (a + j + n1))).1
        rw [h4, drop_len] at hn4
        have hn4 : n4 ≤ s.size - (a + j + n1) := hn4
        (conv=>arg 1;ext i;whnf)
        refine ihL ⟨(zs ++ [v], j + n1 + n4, true), ?_, by simp, ?_, fun _ => ?_, by simp⟩ _ ?_ ?_ (fun _ => ?_)
        ·dsimp only; rw [List.length_append, List.length_singleton]; omega
        ·dsimp only; omega
        ·dsimp only; rw [hmore, thenNo h4]; simp [mapP, Rd.up, Nat.add_assoc]
        ·dsimp only; rw [if_pos rfl, if_neg (by simp)]; omega
        ·intro i
         rw [fms_one]
         kernel_rfl
        ·refine Eq.trans ?_ (congrArg (fun m => tabB (qB s m d true)) (show a + j + n1 + n4 = a + (j + n1 + n4) by omega))
         exact tabC
    ·have hn1 := ((fm_len F).1 d (s.data.toList.drop (a + j))).1
     rw [h1, drop_len] at hn1
     have hn1 : n1 ≤ s.size - (a + j) := hn1
     have hK := hno (zs ++ [v]) (j + n1) (by rw [hinv, thenNo h1]; rfl)
     rw [← Nat.add_assoc, fms_one] at hK
     (conv=>arg 1;ext i;whnf)
     refine Evx.appd (m := ((fms zs).length + 1) * 89) rfl (by rw [fms_len]; omega) ?_
     (conv=>arg 1;ext i;whnf)
     exact Evx.fq (hK)
  ·exact tabC
theorem rkidsB (lo hi : Nat) (s : ByteArray) (a : Nat) (ha : a ≤ s.size) (d : Int) (c : Nat) (K : Nat → Out → G → Option Out) (r : Out)
  (hK : Evx (fun i => K i (.ret [.own (.res 0) 6 []]) ⟨tabB (qB s a d true), 1, []⟩) r) :
  Evx (fun i => runQ (pr i) (i - c) Out (.fn (.func 90)) [.ptr 1 9 0, .d (.int .i64 (lo : Int)), .d (.int .i64 (hi : Int))] ⟨tabB (qB s a d true), 1, []⟩ (K i)) r := by
 apply Evx.enter; (conv=>arg 1;ext i;whnf)
 (refine Evx.bool (fun h => ?_) (fun h => ?_) <;> (try simp only [bbs] at h) <;> (first | (exfalso; omega) | exact absurd trivial h | (conv=>arg 1;ext i;whnf)))
 ·refine Evx.cq ([.ptr 1 9 0, .d (.int .u8 ((41 : Nat) : Int))]) (qB s a d true) 1 ?_
  refine rnextE s a ha d true 41 (by decide) ?_
  (conv=>arg 1;ext i;whnf)
  (refine Evx.bool (fun h => ?_) (fun h => ?_) <;> (try simp only [bbs] at h) <;> (first | (exfalso; omega) | exact absurd trivial h | (conv=>arg 1;ext i;whnf)))
  ·exact Evx.fq (hK)
  ·refine Evx.loopB hint90 4 (α := Unit) (fun p => [some (.ptr 1 9 0), some (.d (.int .i64 (lo : Int))), some (.d (.int .i64 (hi : Int))), some (.own (.tmp 2 7 0) 6 [])]) (fun _ => []) (fun p => qB s a d true) 2 [] (fun p => 0) (fun _ => r) ?_ () (fun _ => rfl) (fun _ => rfl) (fun _ => rfl) (fun _ => by kernel_rfl) (fun _ => ?_)
   ·intro _ L ihL; (conv=>arg 1;ext i;whnf)
    exact Evx.fq (hK)
   ·exact tabC
 ·refine Evx.loopB hint90 4 (α := Unit) (fun p => [some (.ptr 1 9 0), some (.d (.int .i64 (lo : Int))), some (.d (.int .i64 (hi : Int))), some (.own (.tmp 2 7 0) 6 [])]) (fun _ => []) (fun p => qB s a d true) 2 [] (fun p => 0) (fun _ => r) ?_ () (fun _ => rfl) (fun _ => rfl) (fun _ => rfl) (fun _ => by kernel_rfl) (fun _ => ?_)
  ·intro _ L ihL; (conv=>arg 1;ext i;whnf)
   exact Evx.fq (hK)
  ·exact tabC
def gBx (op : Int) (nm : ByteArray) (fr to : Int) : Box := ⟨[.d (.int .i64 op), .d (.str nm), .d .nils, .d (.int .i64 fr), .d (.int .i64 to), .d .nils], false, (0, 0)⟩
def fQ (s : ByteArray) (a : Nat) (d : Int) (x : Bool) (y : Box) : List ((Nat × Nat) × Box) := qB s a d x ++ [((2, 2), zeroBox), ((2, 3), y)]
theorem op_cases {l : List UInt8} {v : Int} {n : Nat} (h : opS l = .ok v n) : v = 1 ∨ v = 2 ∨ v = 4 ∨ v = 5 ∨ v = 6 ∨ v = 7 ∨ v = 8 ∨ v = 9 ∨ v = 10 ∨ v = 11 ∨ v = 12 := by
 obtain ⟨w, hw, hf, _⟩ := op_ok h
 have key : ∀ p ∈ words, p.2 ≠ [] → p.1 = 1 ∨ p.1 = 2 ∨ p.1 = 4 ∨ p.1 = 5 ∨ p.1 = 6 ∨ p.1 = 7 ∨ p.1 = 8 ∨ p.1 = 9 ∨ p.1 = 10 ∨ p.1 = 11 ∨ p.1 = 12 := by decide
 refine key _ hw fun e => ?_
 have := hf.2
 dsimp only at e
 rw [e] at this
 exact absurd this (by simp [lcp])
def kBx (op : Int) (nm : ByteArray) (fr to : Int) (zs : List Fm) : Box := ⟨[.d (.int .i64 op), .d (.str nm), .d .nils, .d (.int .i64 fr), .d (.int .i64 to), .d (.sl 6 (fms zs))], false, (0, 0)⟩
set_option maxHeartbeats 4000000 in
theorem rfmE (F : Nat) (ih : ∀ G, G < F → RmT G) : RmT F := by
 intro s hs a ha d hd0 hd1 hF c K r hok hno
 obtain ⟨F, rfl⟩ : ∃ G, F = G + 1 := ⟨F - 1, by omega⟩
 unfold fmS at hok hno
 apply Evx.enter; (conv=>arg 1;ext i;whnf)
 (refine Evx.bool (fun h => ?_) (fun h => ?_) <;> (try simp only [bbs] at h) <;> (first | (exfalso; omega) | exact absurd trivial h | (conv=>arg 1;ext i;whnf)))
 ·obtain ⟨e, he, hdd⟩ := byte_at (s := s) (a := a) (by omega)
  refine Evx.chr rfl he ?_
  (conv=>arg 1;ext i;whnf)
  refine Evx.call (lower_ev e) ?_
  (conv=>arg 1;ext i;whnf)
  (refine Evx.bool (fun h => ?_) (fun h => ?_) <;> (try simp only [bbs] at h) <;> (first | (exfalso; omega) | exact absurd trivial h | (conv=>arg 1;ext i;whnf)))
  ·have hc : 97 ≤ hd (s.data.toList.drop a) ∧ hd (s.data.toList.drop a) ≤ 122 := by
    rw [hd_byte hdd]
    unfold lowerB at h
    simp only [Bool.and_eq_true, decide_eq_true_eq] at h
    omega
   simp only [if_pos hc] at hok hno
   refine Evx.cq ([.ptr 1 9 0]) (qB s a d false) 1 ?_
   refine ratomE s hs a ha d hd0 (by omega) (fun v n h => ?_) (fun v n h => ?_)
   ·(conv=>arg 1;ext i;whnf)
    exact Evx.fq ((hok v n h))
   ·(conv=>arg 1;ext i;whnf)
    exact Evx.fq ((hno v n h))
  ·have hc : ¬ (97 ≤ hd (s.data.toList.drop a) ∧ hd (s.data.toList.drop a) ≤ 122) := by
    rw [hd_byte hdd]
    unfold lowerB at h
    simp only [Bool.and_eq_false_iff, decide_eq_false_iff_not] at h
    omega
   simp only [if_neg hc] at hok hno
   refine Evx.cq ([.ptr 1 9 0]) (qB s a d false) 1 ?_
   refine ropE s hs a ha d (fun v n1 h1 => ?_) (fun n1 h1 => ?_)
   ·have hn1 := op_two h1
    rw [drop_len] at hn1
    obtain ⟨F, rfl⟩ : ∃ G, F = G + 1 := ⟨F - 1, by omega⟩
    refine Evx.tu (qB s (a + n1) d false ++ [((2, 2), zeroBox)]) 2 ?_
    rcases op_cases h1 with rfl | rfl | rfl | rfl | rfl | rfl | rfl | rfl | rfl | rfl | rfl
    ·have hK := hok (Fm.node 1 ⟨#[]⟩ [] 0 0 []) n1 (by rw [thenOk h1]; rfl)
     (conv=>arg 1;ext i;whnf)
     repeat (refine Evx.bool (fun h => ?_) (fun h => ?_) <;> (try simp only [bbs] at h) <;> (first | (exfalso; omega) | exact absurd trivial h | (conv=>arg 1;ext i;whnf)))
     exact Evx.fq (hK)
    ·have hK := hok (Fm.node 2 ⟨#[]⟩ [] 0 0 []) n1 (by rw [thenOk h1]; rfl)
     (conv=>arg 1;ext i;whnf)
     repeat (refine Evx.bool (fun h => ?_) (fun h => ?_) <;> (try simp only [bbs] at h) <;> (first | (exfalso; omega) | exact absurd trivial h | (conv=>arg 1;ext i;whnf)))
     exact Evx.fq (hK)
    ·have hbi : Ev pr 91 [.int .i64 4] (.ret [.d (.bool false)]) := rbinds_ev 4
     have hokB : ∀ v n, bodyS (F + 1) d 4 ⟨#[]⟩ 0 0 1 (s.data.toList.drop (a + n1)) = .ok v n → Evx (fun i => K i (.ret [.d v.d]) ⟨tabB (qB s (a + n1 + n) d false), 1, []⟩) r := fun v n h => by
      have := hok v (n1 + n) (by rw [thenOk h1, List.drop_drop]; simp [h, Rd.up])
      rwa [← Nat.add_assoc] at this
     have hnoB : ∀ (v : Fm) n, bodyS (F + 1) d 4 ⟨#[]⟩ 0 0 1 (s.data.toList.drop (a + n1)) = .no n → Evx (fun i => K i (.ret [.d v.d]) ⟨tabB (qB s (a + n1 + n) d true), 1, []⟩) r := fun v n h => by
      have := hno v (n1 + n) (by rw [thenOk h1, List.drop_drop]; simp [h, Rd.up])
      rwa [← Nat.add_assoc] at this
     clear hok hno
     (conv=>arg 1;ext i;whnf)
     repeat (refine Evx.bool (fun h => ?_) (fun h => ?_) <;> (try simp only [bbs] at h) <;> (first | (exfalso; omega) | exact absurd trivial h | (conv=>arg 1;ext i;whnf)))
     have hin : Ev pr 69 [(Fm.node 4 (⟨#[]⟩) [] (0) (0) []).d, .int .i64 d] (.ret [.d (.int .i64 (d))]) := inside_ev (Fm.node 4 (⟨#[]⟩) [] (0) (0) []) d hd0 (by omega)
     have hbk := body_kids F (d) 4 (⟨#[]⟩) (0) (0) 1 1 1 (s.data.toList.drop (a + n1)) (by decide) (by rw [drop_len]; omega) (by rw [drop_len]; omega)
     simp only [hbk] at hokB hnoB
     refine Evx.cq ([.ptr 1 9 0, .d (.str (bts [40]))]) (qB s (a + n1) d false) 1 ?_
     refine rlitE s hs [40] (by simp) (by decide) (a + n1) (by omega) d (fun n2 h2 => ?_) (fun n2 h2 => ?_)
     ·have hn2 := (lit_len [40] (s.data.toList.drop (a + n1))).1
      rw [h2, drop_len] at hn2
      have hn2 : n2 ≤ s.size - (a + n1) := hn2
      simp only [thenOk h2, List.drop_drop] at hokB hnoB
      refine Evx.tu (fQ s (a + n1 + n2) d false (gBx 4 (⟨#[]⟩) (0) (0))) 2 ?_
      (conv=>arg 1;ext i;whnf)
      refine Evx.call hin ?_
      (conv=>arg 1;ext i;whnf)
      refine Evx.cq ([.ptr 1 9 0, .d (.int .i64 ((1 : Nat) : Int)), .d (.int .i64 ((1 : Nat) : Int))]) (qB s (a + n1 + n2) (d) false) 1 ?_
      refine rkidsE F (ih F (by omega)) 1 1 (by decide) s hs (a + n1 + n2) (by omega) (d) (by omega) (by omega) (by omega) _ _ _ (fun zs n3 h3 => ?_) (fun zs n3 h3 => ?_)
      ·have hn3 := kids_len F (d) 1 1 (s.data.toList.drop (a + n1 + n2))
       rw [h3, drop_len] at hn3
       have hn3 : n3 ≤ s.size - (a + n1 + n2) := hn3
       simp only [thenOk h3, List.drop_drop] at hokB hnoB
       refine Evx.tu (fQ s (a + n1 + n2 + n3) (d) false (gBx 4 (⟨#[]⟩) (0) (0))) 2 ?_
       (conv=>arg 1;ext i;whnf)
       refine Evx.call hbi ?_
       (conv=>arg 1;ext i;whnf)
       refine Evx.cq ([.ptr 1 9 0, .d (.str (bts [41]))]) (qB s (a + n1 + n2 + n3) d false) 1 ?_
       refine rlitE s hs [41] (by simp) (by decide) (a + n1 + n2 + n3) (by omega) d (fun n4 h4 => ?_) (fun n4 h4 => ?_)
       ·have hK := hokB (Fm.node 4 (⟨#[]⟩) [] (0) (0) zs) (n2 + (n3 + n4)) (by rw [h4]; rfl)
        rw [← Nat.add_assoc, ← Nat.add_assoc] at hK
        refine Evx.tu (fQ s (a + n1 + n2 + n3 + n4) d false (kBx 4 (⟨#[]⟩) (0) (0) zs)) 2 ?_
        (conv=>arg 1;ext i;whnf)
        exact Evx.fq (hK)
       ·have hK := hnoB (Fm.node 4 (⟨#[]⟩) [] (0) (0) zs) (n2 + (n3 + n4)) (by rw [h4]; rfl)
        rw [← Nat.add_assoc, ← Nat.add_assoc] at hK
        refine Evx.tu (fQ s (a + n1 + n2 + n3 + n4) d true (kBx 4 (⟨#[]⟩) (0) (0) zs)) 2 ?_
        (conv=>arg 1;ext i;whnf)
        exact Evx.fq (hK)
      ·have hK := hnoB (Fm.node 4 (⟨#[]⟩) [] (0) (0) zs) (n2 + n3) (by rw [thenNo h3]; rfl)
       rw [← Nat.add_assoc] at hK
       refine Evx.tu (fQ s (a + n1 + n2 + n3) (d) true (gBx 4 (⟨#[]⟩) (0) (0))) 2 ?_
       (conv=>arg 1;ext i;whnf)
       refine Evx.call hbi ?_
       (conv=>arg 1;ext i;whnf)
       refine Evx.cq ([.ptr 1 9 0, .d (.str (bts [41]))]) (qB s (a + n1 + n2 + n3) d true) 1 ?_
       refine rlitB s _ (a + n1 + n2 + n3) d ?_
       refine Evx.tu (fQ s (a + n1 + n2 + n3) d true (kBx 4 (⟨#[]⟩) (0) (0) zs)) 2 ?_
       (conv=>arg 1;ext i;whnf)
       exact Evx.fq (hK)
     ·have hK := hnoB (Fm.node 4 (⟨#[]⟩) [] (0) (0) []) n2 (by rw [thenNo h2])
      have hn2 := (lit_len [40] (s.data.toList.drop (a + n1))).1
      rw [h2, drop_len] at hn2
      have hn2 : n2 ≤ s.size - (a + n1) := hn2
      refine Evx.tu (fQ s (a + n1 + n2) d true (gBx 4 (⟨#[]⟩) (0) (0))) 2 ?_
      (conv=>arg 1;ext i;whnf)
      refine Evx.call hin ?_
      (conv=>arg 1;ext i;whnf)
      refine Evx.cq ([.ptr 1 9 0, .d (.int .i64 ((1 : Nat) : Int)), .d (.int .i64 ((1 : Nat) : Int))]) (qB s (a + n1 + n2) (d) true) 1 ?_
      refine rkidsB 1 1 s (a + n1 + n2) (by omega) (d) _ _ _ ?_
      refine Evx.tu (fQ s (a + n1 + n2) (d) true (gBx 4 (⟨#[]⟩) (0) (0))) 2 ?_
      (conv=>arg 1;ext i;whnf)
      refine Evx.call hbi ?_
      (conv=>arg 1;ext i;whnf)
      refine Evx.cq ([.ptr 1 9 0, .d (.str (bts [41]))]) (qB s (a + n1 + n2) d true) 1 ?_
      refine rlitB s _ (a + n1 + n2) d ?_
      refine Evx.tu (fQ s (a + n1 + n2) d true (kBx 4 (⟨#[]⟩) (0) (0) [])) 2 ?_
      (conv=>arg 1;ext i;whnf)
      exact Evx.fq (hK)
    ·have hbi : Ev pr 91 [.int .i64 5] (.ret [.d (.bool false)]) := rbinds_ev 5
     have hokB : ∀ v n, bodyS (F + 1) d 5 ⟨#[]⟩ 0 0 0 (s.data.toList.drop (a + n1)) = .ok v n → Evx (fun i => K i (.ret [.d v.d]) ⟨tabB (qB s (a + n1 + n) d false), 1, []⟩) r := fun v n h => by
      have := hok v (n1 + n) (by rw [thenOk h1, List.drop_drop]; simp [h, Rd.up])
      rwa [← Nat.add_assoc] at this
     have hnoB : ∀ (v : Fm) n, bodyS (F + 1) d 5 ⟨#[]⟩ 0 0 0 (s.data.toList.drop (a + n1)) = .no n → Evx (fun i => K i (.ret [.d v.d]) ⟨tabB (qB s (a + n1 + n) d true), 1, []⟩) r := fun v n h => by
      have := hno v (n1 + n) (by rw [thenOk h1, List.drop_drop]; simp [h, Rd.up])
      rwa [← Nat.add_assoc] at this
     clear hok hno
     (conv=>arg 1;ext i;whnf)
     repeat (refine Evx.bool (fun h => ?_) (fun h => ?_) <;> (try simp only [bbs] at h) <;> (first | (exfalso; omega) | exact absurd trivial h | (conv=>arg 1;ext i;whnf)))
     have hin : Ev pr 69 [(Fm.node 5 (⟨#[]⟩) [] (0) (0) []).d, .int .i64 d] (.ret [.d (.int .i64 (d))]) := inside_ev (Fm.node 5 (⟨#[]⟩) [] (0) (0) []) d hd0 (by omega)
     have hbk := body_kids F (d) 5 (⟨#[]⟩) (0) (0) 0 0 1099511627776 (s.data.toList.drop (a + n1)) (by decide) (by rw [drop_len]; omega) (by rw [drop_len]; omega)
     simp only [hbk] at hokB hnoB
     refine Evx.cq ([.ptr 1 9 0, .d (.str (bts [40]))]) (qB s (a + n1) d false) 1 ?_
     refine rlitE s hs [40] (by simp) (by decide) (a + n1) (by omega) d (fun n2 h2 => ?_) (fun n2 h2 => ?_)
     ·have hn2 := (lit_len [40] (s.data.toList.drop (a + n1))).1
      rw [h2, drop_len] at hn2
      have hn2 : n2 ≤ s.size - (a + n1) := hn2
      simp only [thenOk h2, List.drop_drop] at hokB hnoB
      refine Evx.tu (fQ s (a + n1 + n2) d false (gBx 5 (⟨#[]⟩) (0) (0))) 2 ?_
      (conv=>arg 1;ext i;whnf)
      refine Evx.call hin ?_
      (conv=>arg 1;ext i;whnf)
      refine Evx.cq ([.ptr 1 9 0, .d (.int .i64 ((0 : Nat) : Int)), .d (.int .i64 ((1099511627776 : Nat) : Int))]) (qB s (a + n1 + n2) (d) false) 1 ?_
      refine rkidsE F (ih F (by omega)) 0 1099511627776 (by decide) s hs (a + n1 + n2) (by omega) (d) (by omega) (by omega) (by omega) _ _ _ (fun zs n3 h3 => ?_) (fun zs n3 h3 => ?_)
      ·have hn3 := kids_len F (d) 0 1099511627776 (s.data.toList.drop (a + n1 + n2))
       rw [h3, drop_len] at hn3
       have hn3 : n3 ≤ s.size - (a + n1 + n2) := hn3
       simp only [thenOk h3, List.drop_drop] at hokB hnoB
       refine Evx.tu (fQ s (a + n1 + n2 + n3) (d) false (gBx 5 (⟨#[]⟩) (0) (0))) 2 ?_
       (conv=>arg 1;ext i;whnf)
       refine Evx.call hbi ?_
       (conv=>arg 1;ext i;whnf)
       refine Evx.cq ([.ptr 1 9 0, .d (.str (bts [41]))]) (qB s (a + n1 + n2 + n3) d false) 1 ?_
       refine rlitE s hs [41] (by simp) (by decide) (a + n1 + n2 + n3) (by omega) d (fun n4 h4 => ?_) (fun n4 h4 => ?_)
       ·have hK := hokB (Fm.node 5 (⟨#[]⟩) [] (0) (0) zs) (n2 + (n3 + n4)) (by rw [h4]; rfl)
        rw [← Nat.add_assoc, ← Nat.add_assoc] at hK
        refine Evx.tu (fQ s (a + n1 + n2 + n3 + n4) d false (kBx 5 (⟨#[]⟩) (0) (0) zs)) 2 ?_
        (conv=>arg 1;ext i;whnf)
        exact Evx.fq (hK)
       ·have hK := hnoB (Fm.node 5 (⟨#[]⟩) [] (0) (0) zs) (n2 + (n3 + n4)) (by rw [h4]; rfl)
        rw [← Nat.add_assoc, ← Nat.add_assoc] at hK
        refine Evx.tu (fQ s (a + n1 + n2 + n3 + n4) d true (kBx 5 (⟨#[]⟩) (0) (0) zs)) 2 ?_
        (conv=>arg 1;ext i;whnf)
        exact Evx.fq (hK)
      ·have hK := hnoB (Fm.node 5 (⟨#[]⟩) [] (0) (0) zs) (n2 + n3) (by rw [thenNo h3]; rfl)
       rw [← Nat.add_assoc] at hK
       refine Evx.tu (fQ s (a + n1 + n2 + n3) (d) true (gBx 5 (⟨#[]⟩) (0) (0))) 2 ?_
       (conv=>arg 1;ext i;whnf)
       refine Evx.call hbi ?_
       (conv=>arg 1;ext i;whnf)
       refine Evx.cq ([.ptr 1 9 0, .d (.str (bts [41]))]) (qB s (a + n1 + n2 + n3) d true) 1 ?_
       refine rlitB s _ (a + n1 + n2 + n3) d ?_
       refine Evx.tu (fQ s (a + n1 + n2 + n3) d true (kBx 5 (⟨#[]⟩) (0) (0) zs)) 2 ?_
       (conv=>arg 1;ext i;whnf)
       exact Evx.fq (hK)
     ·have hK := hnoB (Fm.node 5 (⟨#[]⟩) [] (0) (0) []) n2 (by rw [thenNo h2])
      have hn2 := (lit_len [40] (s.data.toList.drop (a + n1))).1
      rw [h2, drop_len] at hn2
      have hn2 : n2 ≤ s.size - (a + n1) := hn2
      refine Evx.tu (fQ s (a + n1 + n2) d true (gBx 5 (⟨#[]⟩) (0) (0))) 2 ?_
      (conv=>arg 1;ext i;whnf)
      refine Evx.call hin ?_
      (conv=>arg 1;ext i;whnf)
      refine Evx.cq ([.ptr 1 9 0, .d (.int .i64 ((0 : Nat) : Int)), .d (.int .i64 ((1099511627776 : Nat) : Int))]) (qB s (a + n1 + n2) (d) true) 1 ?_
      refine rkidsB 0 1099511627776 s (a + n1 + n2) (by omega) (d) _ _ _ ?_
      refine Evx.tu (fQ s (a + n1 + n2) (d) true (gBx 5 (⟨#[]⟩) (0) (0))) 2 ?_
      (conv=>arg 1;ext i;whnf)
      refine Evx.call hbi ?_
      (conv=>arg 1;ext i;whnf)
      refine Evx.cq ([.ptr 1 9 0, .d (.str (bts [41]))]) (qB s (a + n1 + n2) d true) 1 ?_
      refine rlitB s _ (a + n1 + n2) d ?_
      refine Evx.tu (fQ s (a + n1 + n2) d true (kBx 5 (⟨#[]⟩) (0) (0) [])) 2 ?_
      (conv=>arg 1;ext i;whnf)
      exact Evx.fq (hK)
    ·have hbi : Ev pr 91 [.int .i64 6] (.ret [.d (.bool false)]) := rbinds_ev 6
     have hokB : ∀ v n, bodyS (F + 1) d 6 ⟨#[]⟩ 0 0 0 (s.data.toList.drop (a + n1)) = .ok v n → Evx (fun i => K i (.ret [.d v.d]) ⟨tabB (qB s (a + n1 + n) d false), 1, []⟩) r := fun v n h => by
      have := hok v (n1 + n) (by rw [thenOk h1, List.drop_drop]; simp [h, Rd.up])
      rwa [← Nat.add_assoc] at this
     have hnoB : ∀ (v : Fm) n, bodyS (F + 1) d 6 ⟨#[]⟩ 0 0 0 (s.data.toList.drop (a + n1)) = .no n → Evx (fun i => K i (.ret [.d v.d]) ⟨tabB (qB s (a + n1 + n) d true), 1, []⟩) r := fun v n h => by
      have := hno v (n1 + n) (by rw [thenOk h1, List.drop_drop]; simp [h, Rd.up])
      rwa [← Nat.add_assoc] at this
     clear hok hno
     (conv=>arg 1;ext i;whnf)
     repeat (refine Evx.bool (fun h => ?_) (fun h => ?_) <;> (try simp only [bbs] at h) <;> (first | (exfalso; omega) | exact absurd trivial h | (conv=>arg 1;ext i;whnf)))
     have hin : Ev pr 69 [(Fm.node 6 (⟨#[]⟩) [] (0) (0) []).d, .int .i64 d] (.ret [.d (.int .i64 (d))]) := inside_ev (Fm.node 6 (⟨#[]⟩) [] (0) (0) []) d hd0 (by omega)
     have hbk := body_kids F (d) 6 (⟨#[]⟩) (0) (0) 0 0 1099511627776 (s.data.toList.drop (a + n1)) (by decide) (by rw [drop_len]; omega) (by rw [drop_len]; omega)
     simp only [hbk] at hokB hnoB
     refine Evx.cq ([.ptr 1 9 0, .d (.str (bts [40]))]) (qB s (a + n1) d false) 1 ?_
     refine rlitE s hs [40] (by simp) (by decide) (a + n1) (by omega) d (fun n2 h2 => ?_) (fun n2 h2 => ?_)
     ·have hn2 := (lit_len [40] (s.data.toList.drop (a + n1))).1
      rw [h2, drop_len] at hn2
      have hn2 : n2 ≤ s.size - (a + n1) := hn2
      simp only [thenOk h2, List.drop_drop] at hokB hnoB
      refine Evx.tu (fQ s (a + n1 + n2) d false (gBx 6 (⟨#[]⟩) (0) (0))) 2 ?_
      (conv=>arg 1;ext i;whnf)
      refine Evx.call hin ?_
      (conv=>arg 1;ext i;whnf)
      refine Evx.cq ([.ptr 1 9 0, .d (.int .i64 ((0 : Nat) : Int)), .d (.int .i64 ((1099511627776 : Nat) : Int))]) (qB s (a + n1 + n2) (d) false) 1 ?_
      refine rkidsE F (ih F (by omega)) 0 1099511627776 (by decide) s hs (a + n1 + n2) (by omega) (d) (by omega) (by omega) (by omega) _ _ _ (fun zs n3 h3 => ?_) (fun zs n3 h3 => ?_)
      ·have hn3 := kids_len F (d) 0 1099511627776 (s.data.toList.drop (a + n1 + n2))
       rw [h3, drop_len] at hn3
       have hn3 : n3 ≤ s.size - (a + n1 + n2) := hn3
       simp only [thenOk h3, List.drop_drop] at hokB hnoB
       refine Evx.tu (fQ s (a + n1 + n2 + n3) (d) false (gBx 6 (⟨#[]⟩) (0) (0))) 2 ?_
       (conv=>arg 1;ext i;whnf)
       refine Evx.call hbi ?_
       (conv=>arg 1;ext i;whnf)
       refine Evx.cq ([.ptr 1 9 0, .d (.str (bts [41]))]) (qB s (a + n1 + n2 + n3) d false) 1 ?_
       refine rlitE s hs [41] (by simp) (by decide) (a + n1 + n2 + n3) (by omega) d (fun n4 h4 => ?_) (fun n4 h4 => ?_)
       ·have hK := hokB (Fm.node 6 (⟨#[]⟩) [] (0) (0) zs) (n2 + (n3 + n4)) (by rw [h4]; rfl)
        rw [← Nat.add_assoc, ← Nat.add_assoc] at hK
        refine Evx.tu (fQ s (a + n1 + n2 + n3 + n4) d false (kBx 6 (⟨#[]⟩) (0) (0) zs)) 2 ?_
        (conv=>arg 1;ext i;whnf)
        exact Evx.fq (hK)
       ·have hK := hnoB (Fm.node 6 (⟨#[]⟩) [] (0) (0) zs) (n2 + (n3 + n4)) (by rw [h4]; rfl)
        rw [← Nat.add_assoc, ← Nat.add_assoc] at hK
        refine Evx.tu (fQ s (a + n1 + n2 + n3 + n4) d true (kBx 6 (⟨#[]⟩) (0) (0) zs)) 2 ?_
        (conv=>arg 1;ext i;whnf)
        exact Evx.fq (hK)
      ·have hK := hnoB (Fm.node 6 (⟨#[]⟩) [] (0) (0) zs) (n2 + n3) (by rw [thenNo h3]; rfl)
       rw [← Nat.add_assoc] at hK
       refine Evx.tu (fQ s (a + n1 + n2 + n3) (d) true (gBx 6 (⟨#[]⟩) (0) (0))) 2 ?_
       (conv=>arg 1;ext i;whnf)
       refine Evx.call hbi ?_
       (conv=>arg 1;ext i;whnf)
       refine Evx.cq ([.ptr 1 9 0, .d (.str (bts [41]))]) (qB s (a + n1 + n2 + n3) d true) 1 ?_
       refine rlitB s _ (a + n1 + n2 + n3) d ?_
       refine Evx.tu (fQ s (a + n1 + n2 + n3) d true (kBx 6 (⟨#[]⟩) (0) (0) zs)) 2 ?_
       (conv=>arg 1;ext i;whnf)
       exact Evx.fq (hK)
     ·have hK := hnoB (Fm.node 6 (⟨#[]⟩) [] (0) (0) []) n2 (by rw [thenNo h2])
      have hn2 := (lit_len [40] (s.data.toList.drop (a + n1))).1
      rw [h2, drop_len] at hn2
      have hn2 : n2 ≤ s.size - (a + n1) := hn2
      refine Evx.tu (fQ s (a + n1 + n2) d true (gBx 6 (⟨#[]⟩) (0) (0))) 2 ?_
      (conv=>arg 1;ext i;whnf)
      refine Evx.call hin ?_
      (conv=>arg 1;ext i;whnf)
      refine Evx.cq ([.ptr 1 9 0, .d (.int .i64 ((0 : Nat) : Int)), .d (.int .i64 ((1099511627776 : Nat) : Int))]) (qB s (a + n1 + n2) (d) true) 1 ?_
      refine rkidsB 0 1099511627776 s (a + n1 + n2) (by omega) (d) _ _ _ ?_
      refine Evx.tu (fQ s (a + n1 + n2) (d) true (gBx 6 (⟨#[]⟩) (0) (0))) 2 ?_
      (conv=>arg 1;ext i;whnf)
      refine Evx.call hbi ?_
      (conv=>arg 1;ext i;whnf)
      refine Evx.cq ([.ptr 1 9 0, .d (.str (bts [41]))]) (qB s (a + n1 + n2) d true) 1 ?_
      refine rlitB s _ (a + n1 + n2) d ?_
      refine Evx.tu (fQ s (a + n1 + n2) d true (kBx 6 (⟨#[]⟩) (0) (0) [])) 2 ?_
      (conv=>arg 1;ext i;whnf)
      exact Evx.fq (hK)
    ·have hbi : Ev pr 91 [.int .i64 7] (.ret [.d (.bool false)]) := rbinds_ev 7
     have hokB : ∀ v n, bodyS (F + 1) d 7 ⟨#[]⟩ 0 0 2 (s.data.toList.drop (a + n1)) = .ok v n → Evx (fun i => K i (.ret [.d v.d]) ⟨tabB (qB s (a + n1 + n) d false), 1, []⟩) r := fun v n h => by
      have := hok v (n1 + n) (by rw [thenOk h1, List.drop_drop]; simp [h, Rd.up])
      rwa [← Nat.add_assoc] at this
     have hnoB : ∀ (v : Fm) n, bodyS (F + 1) d 7 ⟨#[]⟩ 0 0 2 (s.data.toList.drop (a + n1)) = .no n → Evx (fun i => K i (.ret [.d v.d]) ⟨tabB (qB s (a + n1 + n) d true), 1, []⟩) r := fun v n h => by
      have := hno v (n1 + n) (by rw [thenOk h1, List.drop_drop]; simp [h, Rd.up])
      rwa [← Nat.add_assoc] at this
     clear hok hno
     (conv=>arg 1;ext i;whnf)
     repeat (refine Evx.bool (fun h => ?_) (fun h => ?_) <;> (try simp only [bbs] at h) <;> (first | (exfalso; omega) | exact absurd trivial h | (conv=>arg 1;ext i;whnf)))
     have hin : Ev pr 69 [(Fm.node 7 (⟨#[]⟩) [] (0) (0) []).d, .int .i64 d] (.ret [.d (.int .i64 (d))]) := inside_ev (Fm.node 7 (⟨#[]⟩) [] (0) (0) []) d hd0 (by omega)
     have hbk := body_kids F (d) 7 (⟨#[]⟩) (0) (0) 2 2 2 (s.data.toList.drop (a + n1)) (by decide) (by rw [drop_len]; omega) (by rw [drop_len]; omega)
     simp only [hbk] at hokB hnoB
     refine Evx.cq ([.ptr 1 9 0, .d (.str (bts [40]))]) (qB s (a + n1) d false) 1 ?_
     refine rlitE s hs [40] (by simp) (by decide) (a + n1) (by omega) d (fun n2 h2 => ?_) (fun n2 h2 => ?_)
     ·have hn2 := (lit_len [40] (s.data.toList.drop (a + n1))).1
      rw [h2, drop_len] at hn2
      have hn2 : n2 ≤ s.size - (a + n1) := hn2
      simp only [thenOk h2, List.drop_drop] at hokB hnoB
      refine Evx.tu (fQ s (a + n1 + n2) d false (gBx 7 (⟨#[]⟩) (0) (0))) 2 ?_
      (conv=>arg 1;ext i;whnf)
      refine Evx.call hin ?_
      (conv=>arg 1;ext i;whnf)
      refine Evx.cq ([.ptr 1 9 0, .d (.int .i64 ((2 : Nat) : Int)), .d (.int .i64 ((2 : Nat) : Int))]) (qB s (a + n1 + n2) (d) false) 1 ?_
      refine rkidsE F (ih F (by omega)) 2 2 (by decide) s hs (a + n1 + n2) (by omega) (d) (by omega) (by omega) (by omega) _ _ _ (fun zs n3 h3 => ?_) (fun zs n3 h3 => ?_)
      ·have hn3 := kids_len F (d) 2 2 (s.data.toList.drop (a + n1 + n2))
       rw [h3, drop_len] at hn3
       have hn3 : n3 ≤ s.size - (a + n1 + n2) := hn3
       simp only [thenOk h3, List.drop_drop] at hokB hnoB
       refine Evx.tu (fQ s (a + n1 + n2 + n3) (d) false (gBx 7 (⟨#[]⟩) (0) (0))) 2 ?_
       (conv=>arg 1;ext i;whnf)
       refine Evx.call hbi ?_
       (conv=>arg 1;ext i;whnf)
       refine Evx.cq ([.ptr 1 9 0, .d (.str (bts [41]))]) (qB s (a + n1 + n2 + n3) d false) 1 ?_
       refine rlitE s hs [41] (by simp) (by decide) (a + n1 + n2 + n3) (by omega) d (fun n4 h4 => ?_) (fun n4 h4 => ?_)
       ·have hK := hokB (Fm.node 7 (⟨#[]⟩) [] (0) (0) zs) (n2 + (n3 + n4)) (by rw [h4]; rfl)
        rw [← Nat.add_assoc, ← Nat.add_assoc] at hK
        refine Evx.tu (fQ s (a + n1 + n2 + n3 + n4) d false (kBx 7 (⟨#[]⟩) (0) (0) zs)) 2 ?_
        (conv=>arg 1;ext i;whnf)
        exact Evx.fq (hK)
       ·have hK := hnoB (Fm.node 7 (⟨#[]⟩) [] (0) (0) zs) (n2 + (n3 + n4)) (by rw [h4]; rfl)
        rw [← Nat.add_assoc, ← Nat.add_assoc] at hK
        refine Evx.tu (fQ s (a + n1 + n2 + n3 + n4) d true (kBx 7 (⟨#[]⟩) (0) (0) zs)) 2 ?_
        (conv=>arg 1;ext i;whnf)
        exact Evx.fq (hK)
      ·have hK := hnoB (Fm.node 7 (⟨#[]⟩) [] (0) (0) zs) (n2 + n3) (by rw [thenNo h3]; rfl)
       rw [← Nat.add_assoc] at hK
       refine Evx.tu (fQ s (a + n1 + n2 + n3) (d) true (gBx 7 (⟨#[]⟩) (0) (0))) 2 ?_
       (conv=>arg 1;ext i;whnf)
       refine Evx.call hbi ?_
       (conv=>arg 1;ext i;whnf)
       refine Evx.cq ([.ptr 1 9 0, .d (.str (bts [41]))]) (qB s (a + n1 + n2 + n3) d true) 1 ?_
       refine rlitB s _ (a + n1 + n2 + n3) d ?_
       refine Evx.tu (fQ s (a + n1 + n2 + n3) d true (kBx 7 (⟨#[]⟩) (0) (0) zs)) 2 ?_
       (conv=>arg 1;ext i;whnf)
       exact Evx.fq (hK)
     ·have hK := hnoB (Fm.node 7 (⟨#[]⟩) [] (0) (0) []) n2 (by rw [thenNo h2])
      have hn2 := (lit_len [40] (s.data.toList.drop (a + n1))).1
      rw [h2, drop_len] at hn2
      have hn2 : n2 ≤ s.size - (a + n1) := hn2
      refine Evx.tu (fQ s (a + n1 + n2) d true (gBx 7 (⟨#[]⟩) (0) (0))) 2 ?_
      (conv=>arg 1;ext i;whnf)
      refine Evx.call hin ?_
      (conv=>arg 1;ext i;whnf)
      refine Evx.cq ([.ptr 1 9 0, .d (.int .i64 ((2 : Nat) : Int)), .d (.int .i64 ((2 : Nat) : Int))]) (qB s (a + n1 + n2) (d) true) 1 ?_
      refine rkidsB 2 2 s (a + n1 + n2) (by omega) (d) _ _ _ ?_
      refine Evx.tu (fQ s (a + n1 + n2) (d) true (gBx 7 (⟨#[]⟩) (0) (0))) 2 ?_
      (conv=>arg 1;ext i;whnf)
      refine Evx.call hbi ?_
      (conv=>arg 1;ext i;whnf)
      refine Evx.cq ([.ptr 1 9 0, .d (.str (bts [41]))]) (qB s (a + n1 + n2) d true) 1 ?_
      refine rlitB s _ (a + n1 + n2) d ?_
      refine Evx.tu (fQ s (a + n1 + n2) d true (kBx 7 (⟨#[]⟩) (0) (0) [])) 2 ?_
      (conv=>arg 1;ext i;whnf)
      exact Evx.fq (hK)
    ·have hbi : Ev pr 91 [.int .i64 8] (.ret [.d (.bool true)]) := rbinds_ev 8
     have hokA : ∀ v n, (thenP (litS [32] (s.data.toList.drop (a + n1))) (fun _ l => thenP (symS l) (fun s l => bodyS (F + 1) (d + 1) 8 (bts s) 0 0 1 l) l) (s.data.toList.drop (a + n1))) = .ok v n → Evx (fun i => K i (.ret [.d v.d]) ⟨tabB (qB s (a + n1 + n) d false), 1, []⟩) r := fun v n h => by
      have := hok v (n1 + n) (by rw [thenOk h1, List.drop_drop]; simp [h, Rd.up])
      rwa [← Nat.add_assoc] at this
     have hnoA : ∀ (v : Fm) n, (thenP (litS [32] (s.data.toList.drop (a + n1))) (fun _ l => thenP (symS l) (fun s l => bodyS (F + 1) (d + 1) 8 (bts s) 0 0 1 l) l) (s.data.toList.drop (a + n1))) = .no n → Evx (fun i => K i (.ret [.d v.d]) ⟨tabB (qB s (a + n1 + n) d true), 1, []⟩) r := fun v n h => by
      have := hno v (n1 + n) (by rw [thenOk h1, List.drop_drop]; simp [h, Rd.up])
      rwa [← Nat.add_assoc] at this
     clear hok hno
     (conv=>arg 1;ext i;whnf)
     repeat (refine Evx.bool (fun h => ?_) (fun h => ?_) <;> (try simp only [bbs] at h) <;> (first | (exfalso; omega) | exact absurd trivial h | (conv=>arg 1;ext i;whnf)))
     refine Evx.cq ([.ptr 1 9 0, .d (.str (bts [32]))]) (qB s (a + n1) d false) 1 ?_
     refine rlitE s hs [32] (by simp) (by decide) (a + n1) (by omega) d (fun m1 g1 => ?_) (fun m1 g1 => ?_)
     ·have hm1 := (lit_len [32] (s.data.toList.drop (a + n1))).1
      rw [g1, drop_len] at hm1
      have hm1 : m1 ≤ s.size - (a + n1) := hm1
      simp only [thenOk g1, List.drop_drop] at hokA hnoA
      refine Evx.tu (fQ s (a + n1 + m1) d false (gBx 8 ⟨#[]⟩ 0 0)) 2 ?_
      (conv=>arg 1;ext i;whnf)
      refine Evx.cq ([.ptr 1 9 0]) (qB s (a + n1 + m1) d false) 1 ?_
      refine rsymE s hs (a + n1 + m1) (by omega) d (fun nm m2 g2 => ?_) (fun g2 => ?_)
      ·have hm2 := (sym_len (s.data.toList.drop (a + n1 + m1))).1
       rw [g2, drop_len] at hm2
       have hm2 : m2 ≤ s.size - (a + n1 + m1) := hm2
       have hm3 := ((sym_len (s.data.toList.drop (a + n1 + m1))).2 _ _ g2).2
       simp only [thenOk g2, List.drop_drop] at hokA hnoA
       have hokB : ∀ v n, bodyS (F + 1) (d + 1) 8 (bts nm) 0 0 1 (s.data.toList.drop (a + n1 + m1 + m2)) = .ok v n → Evx (fun i => K i (.ret [.d v.d]) ⟨tabB (qB s (a + n1 + m1 + m2 + n) d false), 1, []⟩) r := fun v n h => by
        have := hokA v (m1 + (m2 + n)) (by rw [h]; rfl)
        rwa [← Nat.add_assoc, ← Nat.add_assoc] at this
       have hnoB : ∀ (v : Fm) n, bodyS (F + 1) (d + 1) 8 (bts nm) 0 0 1 (s.data.toList.drop (a + n1 + m1 + m2)) = .no n → Evx (fun i => K i (.ret [.d v.d]) ⟨tabB (qB s (a + n1 + m1 + m2 + n) d true), 1, []⟩) r := fun v n h => by
        have := hnoA v (m1 + (m2 + n)) (by rw [h]; rfl)
        rwa [← Nat.add_assoc, ← Nat.add_assoc] at this
       clear hokA hnoA
       refine Evx.tu (fQ s (a + n1 + m1 + m2) d false (gBx 8 ⟨#[]⟩ 0 0)) 2 ?_
       (conv=>arg 1;ext i;whnf)
       have hin : Ev pr 69 [(Fm.node 8 (bts nm) [] (0) (0) []).d, .int .i64 d] (.ret [.d (.int .i64 (d + 1))]) := inside_ev (Fm.node 8 (bts nm) [] (0) (0) []) d hd0 (by omega)
       have hbk := body_kids F (d + 1) 8 (bts nm) (0) (0) 1 1 1 (s.data.toList.drop (a + n1 + m1 + m2)) (by decide) (by rw [drop_len]; omega) (by rw [drop_len]; omega)
       simp only [hbk] at hokB hnoB
       refine Evx.cq ([.ptr 1 9 0, .d (.str (bts [40]))]) (qB s (a + n1 + m1 + m2) d false) 1 ?_
       refine rlitE s hs [40] (by simp) (by decide) (a + n1 + m1 + m2) (by omega) d (fun n2 h2 => ?_) (fun n2 h2 => ?_)
       ·have hn2 := (lit_len [40] (s.data.toList.drop (a + n1 + m1 + m2))).1
        rw [h2, drop_len] at hn2
        have hn2 : n2 ≤ s.size - (a + n1 + m1 + m2) := hn2
        simp only [thenOk h2, List.drop_drop] at hokB hnoB
        refine Evx.tu (fQ s (a + n1 + m1 + m2 + n2) d false (gBx 8 (bts nm) (0) (0))) 2 ?_
        (conv=>arg 1;ext i;whnf)
        refine Evx.call hin ?_
        (conv=>arg 1;ext i;whnf)
        refine Evx.cq ([.ptr 1 9 0, .d (.int .i64 ((1 : Nat) : Int)), .d (.int .i64 ((1 : Nat) : Int))]) (qB s (a + n1 + m1 + m2 + n2) (d + 1) false) 1 ?_
        refine rkidsE F (ih F (by omega)) 1 1 (by decide) s hs (a + n1 + m1 + m2 + n2) (by omega) (d + 1) (by omega) (by omega) (by omega) _ _ _ (fun zs n3 h3 => ?_) (fun zs n3 h3 => ?_)
        ·have hn3 := kids_len F (d + 1) 1 1 (s.data.toList.drop (a + n1 + m1 + m2 + n2))
         rw [h3, drop_len] at hn3
         have hn3 : n3 ≤ s.size - (a + n1 + m1 + m2 + n2) := hn3
         simp only [thenOk h3, List.drop_drop] at hokB hnoB
         refine Evx.tu (fQ s (a + n1 + m1 + m2 + n2 + n3) (d + 1) false (gBx 8 (bts nm) (0) (0))) 2 ?_
         (conv=>arg 1;ext i;whnf)
         refine Evx.call hbi ?_
         (conv=>arg 1;ext i;whnf)
         refine Evx.int (n' := d) (by rw [wrap_small] <;> omega) ?_
         (conv=>arg 1;ext i;whnf)
         refine Evx.cq ([.ptr 1 9 0, .d (.str (bts [41]))]) (qB s (a + n1 + m1 + m2 + n2 + n3) d false) 1 ?_
         refine rlitE s hs [41] (by simp) (by decide) (a + n1 + m1 + m2 + n2 + n3) (by omega) d (fun n4 h4 => ?_) (fun n4 h4 => ?_)
         ·have hK := hokB (Fm.node 8 (bts nm) [] (0) (0) zs) (n2 + (n3 + n4)) (by rw [h4]; rfl)
          rw [← Nat.add_assoc, ← Nat.add_assoc] at hK
          refine Evx.tu (fQ s (a + n1 + m1 + m2 + n2 + n3 + n4) d false (kBx 8 (bts nm) (0) (0) zs)) 2 ?_
          (conv=>arg 1;ext i;whnf)
          exact Evx.fq (hK)
         ·have hK := hnoB (Fm.node 8 (bts nm) [] (0) (0) zs) (n2 + (n3 + n4)) (by rw [h4]; rfl)
          rw [← Nat.add_assoc, ← Nat.add_assoc] at hK
          refine Evx.tu (fQ s (a + n1 + m1 + m2 + n2 + n3 + n4) d true (kBx 8 (bts nm) (0) (0) zs)) 2 ?_
          (conv=>arg 1;ext i;whnf)
          exact Evx.fq (hK)
        ·have hK := hnoB (Fm.node 8 (bts nm) [] (0) (0) zs) (n2 + n3) (by rw [thenNo h3]; rfl)
         rw [← Nat.add_assoc] at hK
         refine Evx.tu (fQ s (a + n1 + m1 + m2 + n2 + n3) (d + 1) true (gBx 8 (bts nm) (0) (0))) 2 ?_
         (conv=>arg 1;ext i;whnf)
         refine Evx.call hbi ?_
         (conv=>arg 1;ext i;whnf)
         refine Evx.int (n' := d) (by rw [wrap_small] <;> omega) ?_
         (conv=>arg 1;ext i;whnf)
         refine Evx.cq ([.ptr 1 9 0, .d (.str (bts [41]))]) (qB s (a + n1 + m1 + m2 + n2 + n3) d true) 1 ?_
         refine rlitB s _ (a + n1 + m1 + m2 + n2 + n3) d ?_
         refine Evx.tu (fQ s (a + n1 + m1 + m2 + n2 + n3) d true (kBx 8 (bts nm) (0) (0) zs)) 2 ?_
         (conv=>arg 1;ext i;whnf)
         exact Evx.fq (hK)
       ·have hK := hnoB (Fm.node 8 (bts nm) [] (0) (0) []) n2 (by rw [thenNo h2])
        have hn2 := (lit_len [40] (s.data.toList.drop (a + n1 + m1 + m2))).1
        rw [h2, drop_len] at hn2
        have hn2 : n2 ≤ s.size - (a + n1 + m1 + m2) := hn2
        refine Evx.tu (fQ s (a + n1 + m1 + m2 + n2) d true (gBx 8 (bts nm) (0) (0))) 2 ?_
        (conv=>arg 1;ext i;whnf)
        refine Evx.call hin ?_
        (conv=>arg 1;ext i;whnf)
        refine Evx.cq ([.ptr 1 9 0, .d (.int .i64 ((1 : Nat) : Int)), .d (.int .i64 ((1 : Nat) : Int))]) (qB s (a + n1 + m1 + m2 + n2) (d + 1) true) 1 ?_
        refine rkidsB 1 1 s (a + n1 + m1 + m2 + n2) (by omega) (d + 1) _ _ _ ?_
        refine Evx.tu (fQ s (a + n1 + m1 + m2 + n2) (d + 1) true (gBx 8 (bts nm) (0) (0))) 2 ?_
        (conv=>arg 1;ext i;whnf)
        refine Evx.call hbi ?_
        (conv=>arg 1;ext i;whnf)
        refine Evx.int (n' := d) (by rw [wrap_small] <;> omega) ?_
        (conv=>arg 1;ext i;whnf)
        refine Evx.cq ([.ptr 1 9 0, .d (.str (bts [41]))]) (qB s (a + n1 + m1 + m2 + n2) d true) 1 ?_
        refine rlitB s _ (a + n1 + m1 + m2 + n2) d ?_
        refine Evx.tu (fQ s (a + n1 + m1 + m2 + n2) d true (kBx 8 (bts nm) (0) (0) [])) 2 ?_
        (conv=>arg 1;ext i;whnf)
        exact Evx.fq (hK)
      ·have hK := hnoA (Fm.node 8 ⟨#[]⟩ [] 0 0 []) m1 (by rw [thenNo g2]; rfl)
       have hin : Ev pr 69 [(Fm.node 8 ⟨#[]⟩ [] 0 0 []).d, .int .i64 d] (.ret [.d (.int .i64 (d + 1))]) := inside_ev (Fm.node 8 ⟨#[]⟩ [] 0 0 []) d hd0 (by omega)
       refine Evx.tu (fQ s (a + n1 + m1) d true (gBx 8 ⟨#[]⟩ 0 0)) 2 ?_
       (conv=>arg 1;ext i;whnf)
       refine Evx.cq ([.ptr 1 9 0, .d (.str (bts [40]))]) (qB s (a + n1 + m1) d true) 1 ?_
       refine rlitB s _ (a + n1 + m1) d ?_
       refine Evx.tu (fQ s (a + n1 + m1) d true (gBx 8 (⟨#[]⟩) (0) (0))) 2 ?_
       (conv=>arg 1;ext i;whnf)
       refine Evx.call hin ?_
       (conv=>arg 1;ext i;whnf)
       refine Evx.cq ([.ptr 1 9 0, .d (.int .i64 ((1 : Nat) : Int)), .d (.int .i64 ((1 : Nat) : Int))]) (qB s (a + n1 + m1) (d + 1) true) 1 ?_
       refine rkidsB 1 1 s (a + n1 + m1) (by omega) (d + 1) _ _ _ ?_
       refine Evx.tu (fQ s (a + n1 + m1) (d + 1) true (gBx 8 (⟨#[]⟩) (0) (0))) 2 ?_
       (conv=>arg 1;ext i;whnf)
       refine Evx.call hbi ?_
       (conv=>arg 1;ext i;whnf)
       refine Evx.int (n' := d) (by rw [wrap_small] <;> omega) ?_
       (conv=>arg 1;ext i;whnf)
       refine Evx.cq ([.ptr 1 9 0, .d (.str (bts [41]))]) (qB s (a + n1 + m1) d true) 1 ?_
       refine rlitB s _ (a + n1 + m1) d ?_
       refine Evx.tu (fQ s (a + n1 + m1) d true (kBx 8 (⟨#[]⟩) (0) (0) [])) 2 ?_
       (conv=>arg 1;ext i;whnf)
       exact Evx.fq (hK)
     ·have hK := hnoA (Fm.node 8 ⟨#[]⟩ [] 0 0 []) m1 (by rw [thenNo g1])
      have hm1 := (lit_len [32] (s.data.toList.drop (a + n1))).1
      rw [g1, drop_len] at hm1
      have hm1 : m1 ≤ s.size - (a + n1) := hm1
      have hin : Ev pr 69 [(Fm.node 8 ⟨#[]⟩ [] 0 0 []).d, .int .i64 d] (.ret [.d (.int .i64 (d + 1))]) := inside_ev (Fm.node 8 ⟨#[]⟩ [] 0 0 []) d hd0 (by omega)
      refine Evx.tu (fQ s (a + n1 + m1) d true (gBx 8 ⟨#[]⟩ 0 0)) 2 ?_
      (conv=>arg 1;ext i;whnf)
      refine Evx.cq ([.ptr 1 9 0]) (qB s (a + n1 + m1) d true) 1 ?_
      refine rsymB s (a + n1 + m1) d ?_
      refine Evx.tu (fQ s (a + n1 + m1) d true (gBx 8 ⟨#[]⟩ 0 0)) 2 ?_
      (conv=>arg 1;ext i;whnf)
      refine Evx.cq ([.ptr 1 9 0, .d (.str (bts [40]))]) (qB s (a + n1 + m1) d true) 1 ?_
      refine rlitB s _ (a + n1 + m1) d ?_
      refine Evx.tu (fQ s (a + n1 + m1) d true (gBx 8 (⟨#[]⟩) (0) (0))) 2 ?_
      (conv=>arg 1;ext i;whnf)
      refine Evx.call hin ?_
      (conv=>arg 1;ext i;whnf)
      refine Evx.cq ([.ptr 1 9 0, .d (.int .i64 ((1 : Nat) : Int)), .d (.int .i64 ((1 : Nat) : Int))]) (qB s (a + n1 + m1) (d + 1) true) 1 ?_
      refine rkidsB 1 1 s (a + n1 + m1) (by omega) (d + 1) _ _ _ ?_
      refine Evx.tu (fQ s (a + n1 + m1) (d + 1) true (gBx 8 (⟨#[]⟩) (0) (0))) 2 ?_
      (conv=>arg 1;ext i;whnf)
      refine Evx.call hbi ?_
      (conv=>arg 1;ext i;whnf)
      refine Evx.int (n' := d) (by rw [wrap_small] <;> omega) ?_
      (conv=>arg 1;ext i;whnf)
      refine Evx.cq ([.ptr 1 9 0, .d (.str (bts [41]))]) (qB s (a + n1 + m1) d true) 1 ?_
      refine rlitB s _ (a + n1 + m1) d ?_
      refine Evx.tu (fQ s (a + n1 + m1) d true (kBx 8 (⟨#[]⟩) (0) (0) [])) 2 ?_
      (conv=>arg 1;ext i;whnf)
      exact Evx.fq (hK)
    ·have hbi : Ev pr 91 [.int .i64 9] (.ret [.d (.bool true)]) := rbinds_ev 9
     have hokA : ∀ v n, (thenP (litS [32] (s.data.toList.drop (a + n1))) (fun _ l => thenP (symS l) (fun s l => bodyS (F + 1) (d + 1) 9 (bts s) 0 0 1 l) l) (s.data.toList.drop (a + n1))) = .ok v n → Evx (fun i => K i (.ret [.d v.d]) ⟨tabB (qB s (a + n1 + n) d false), 1, []⟩) r := fun v n h => by
      have := hok v (n1 + n) (by rw [thenOk h1, List.drop_drop]; simp [h, Rd.up])
      rwa [← Nat.add_assoc] at this
     have hnoA : ∀ (v : Fm) n, (thenP (litS [32] (s.data.toList.drop (a + n1))) (fun _ l => thenP (symS l) (fun s l => bodyS (F + 1) (d + 1) 9 (bts s) 0 0 1 l) l) (s.data.toList.drop (a + n1))) = .no n → Evx (fun i => K i (.ret [.d v.d]) ⟨tabB (qB s (a + n1 + n) d true), 1, []⟩) r := fun v n h => by
      have := hno v (n1 + n) (by rw [thenOk h1, List.drop_drop]; simp [h, Rd.up])
      rwa [← Nat.add_assoc] at this
     clear hok hno
     (conv=>arg 1;ext i;whnf)
     repeat (refine Evx.bool (fun h => ?_) (fun h => ?_) <;> (try simp only [bbs] at h) <;> (first | (exfalso; omega) | exact absurd trivial h | (conv=>arg 1;ext i;whnf)))
     refine Evx.cq ([.ptr 1 9 0, .d (.str (bts [32]))]) (qB s (a + n1) d false) 1 ?_
     refine rlitE s hs [32] (by simp) (by decide) (a + n1) (by omega) d (fun m1 g1 => ?_) (fun m1 g1 => ?_)
     ·have hm1 := (lit_len [32] (s.data.toList.drop (a + n1))).1
      rw [g1, drop_len] at hm1
      have hm1 : m1 ≤ s.size - (a + n1) := hm1
      simp only [thenOk g1, List.drop_drop] at hokA hnoA
      refine Evx.tu (fQ s (a + n1 + m1) d false (gBx 9 ⟨#[]⟩ 0 0)) 2 ?_
      (conv=>arg 1;ext i;whnf)
      refine Evx.cq ([.ptr 1 9 0]) (qB s (a + n1 + m1) d false) 1 ?_
      refine rsymE s hs (a + n1 + m1) (by omega) d (fun nm m2 g2 => ?_) (fun g2 => ?_)
      ·have hm2 := (sym_len (s.data.toList.drop (a + n1 + m1))).1
       rw [g2, drop_len] at hm2
       have hm2 : m2 ≤ s.size - (a + n1 + m1) := hm2
       have hm3 := ((sym_len (s.data.toList.drop (a + n1 + m1))).2 _ _ g2).2
       simp only [thenOk g2, List.drop_drop] at hokA hnoA
       have hokB : ∀ v n, bodyS (F + 1) (d + 1) 9 (bts nm) 0 0 1 (s.data.toList.drop (a + n1 + m1 + m2)) = .ok v n → Evx (fun i => K i (.ret [.d v.d]) ⟨tabB (qB s (a + n1 + m1 + m2 + n) d false), 1, []⟩) r := fun v n h => by
        have := hokA v (m1 + (m2 + n)) (by rw [h]; rfl)
        rwa [← Nat.add_assoc, ← Nat.add_assoc] at this
       have hnoB : ∀ (v : Fm) n, bodyS (F + 1) (d + 1) 9 (bts nm) 0 0 1 (s.data.toList.drop (a + n1 + m1 + m2)) = .no n → Evx (fun i => K i (.ret [.d v.d]) ⟨tabB (qB s (a + n1 + m1 + m2 + n) d true), 1, []⟩) r := fun v n h => by
        have := hnoA v (m1 + (m2 + n)) (by rw [h]; rfl)
        rwa [← Nat.add_assoc, ← Nat.add_assoc] at this
       clear hokA hnoA
       refine Evx.tu (fQ s (a + n1 + m1 + m2) d false (gBx 9 ⟨#[]⟩ 0 0)) 2 ?_
       (conv=>arg 1;ext i;whnf)
       have hin : Ev pr 69 [(Fm.node 9 (bts nm) [] (0) (0) []).d, .int .i64 d] (.ret [.d (.int .i64 (d + 1))]) := inside_ev (Fm.node 9 (bts nm) [] (0) (0) []) d hd0 (by omega)
       have hbk := body_kids F (d + 1) 9 (bts nm) (0) (0) 1 1 1 (s.data.toList.drop (a + n1 + m1 + m2)) (by decide) (by rw [drop_len]; omega) (by rw [drop_len]; omega)
       simp only [hbk] at hokB hnoB
       refine Evx.cq ([.ptr 1 9 0, .d (.str (bts [40]))]) (qB s (a + n1 + m1 + m2) d false) 1 ?_
       refine rlitE s hs [40] (by simp) (by decide) (a + n1 + m1 + m2) (by omega) d (fun n2 h2 => ?_) (fun n2 h2 => ?_)
       ·have hn2 := (lit_len [40] (s.data.toList.drop (a + n1 + m1 + m2))).1
        rw [h2, drop_len] at hn2
        have hn2 : n2 ≤ s.size - (a + n1 + m1 + m2) := hn2
        simp only [thenOk h2, List.drop_drop] at hokB hnoB
        refine Evx.tu (fQ s (a + n1 + m1 + m2 + n2) d false (gBx 9 (bts nm) (0) (0))) 2 ?_
        (conv=>arg 1;ext i;whnf)
        refine Evx.call hin ?_
        (conv=>arg 1;ext i;whnf)
        refine Evx.cq ([.ptr 1 9 0, .d (.int .i64 ((1 : Nat) : Int)), .d (.int .i64 ((1 : Nat) : Int))]) (qB s (a + n1 + m1 + m2 + n2) (d + 1) false) 1 ?_
        refine rkidsE F (ih F (by omega)) 1 1 (by decide) s hs (a + n1 + m1 + m2 + n2) (by omega) (d + 1) (by omega) (by omega) (by omega) _ _ _ (fun zs n3 h3 => ?_) (fun zs n3 h3 => ?_)
        ·have hn3 := kids_len F (d + 1) 1 1 (s.data.toList.drop (a + n1 + m1 + m2 + n2))
         rw [h3, drop_len] at hn3
         have hn3 : n3 ≤ s.size - (a + n1 + m1 + m2 + n2) := hn3
         simp only [thenOk h3, List.drop_drop] at hokB hnoB
         refine Evx.tu (fQ s (a + n1 + m1 + m2 + n2 + n3) (d + 1) false (gBx 9 (bts nm) (0) (0))) 2 ?_
         (conv=>arg 1;ext i;whnf)
         refine Evx.call hbi ?_
         (conv=>arg 1;ext i;whnf)
         refine Evx.int (n' := d) (by rw [wrap_small] <;> omega) ?_
         (conv=>arg 1;ext i;whnf)
         refine Evx.cq ([.ptr 1 9 0, .d (.str (bts [41]))]) (qB s (a + n1 + m1 + m2 + n2 + n3) d false) 1 ?_
         refine rlitE s hs [41] (by simp) (by decide) (a + n1 + m1 + m2 + n2 + n3) (by omega) d (fun n4 h4 => ?_) (fun n4 h4 => ?_)
         ·have hK := hokB (Fm.node 9 (bts nm) [] (0) (0) zs) (n2 + (n3 + n4)) (by rw [h4]; rfl)
          rw [← Nat.add_assoc, ← Nat.add_assoc] at hK
          refine Evx.tu (fQ s (a + n1 + m1 + m2 + n2 + n3 + n4) d false (kBx 9 (bts nm) (0) (0) zs)) 2 ?_
          (conv=>arg 1;ext i;whnf)
          exact Evx.fq (hK)
         ·have hK := hnoB (Fm.node 9 (bts nm) [] (0) (0) zs) (n2 + (n3 + n4)) (by rw [h4]; rfl)
          rw [← Nat.add_assoc, ← Nat.add_assoc] at hK
          refine Evx.tu (fQ s (a + n1 + m1 + m2 + n2 + n3 + n4) d true (kBx 9 (bts nm) (0) (0) zs)) 2 ?_
          (conv=>arg 1;ext i;whnf)
          exact Evx.fq (hK)
        ·have hK := hnoB (Fm.node 9 (bts nm) [] (0) (0) zs) (n2 + n3) (by rw [thenNo h3]; rfl)
         rw [← Nat.add_assoc] at hK
         refine Evx.tu (fQ s (a + n1 + m1 + m2 + n2 + n3) (d + 1) true (gBx 9 (bts nm) (0) (0))) 2 ?_
         (conv=>arg 1;ext i;whnf)
         refine Evx.call hbi ?_
         (conv=>arg 1;ext i;whnf)
         refine Evx.int (n' := d) (by rw [wrap_small] <;> omega) ?_
         (conv=>arg 1;ext i;whnf)
         refine Evx.cq ([.ptr 1 9 0, .d (.str (bts [41]))]) (qB s (a + n1 + m1 + m2 + n2 + n3) d true) 1 ?_
         refine rlitB s _ (a + n1 + m1 + m2 + n2 + n3) d ?_
         refine Evx.tu (fQ s (a + n1 + m1 + m2 + n2 + n3) d true (kBx 9 (bts nm) (0) (0) zs)) 2 ?_
         (conv=>arg 1;ext i;whnf)
         exact Evx.fq (hK)
       ·have hK := hnoB (Fm.node 9 (bts nm) [] (0) (0) []) n2 (by rw [thenNo h2])
        have hn2 := (lit_len [40] (s.data.toList.drop (a + n1 + m1 + m2))).1
        rw [h2, drop_len] at hn2
        have hn2 : n2 ≤ s.size - (a + n1 + m1 + m2) := hn2
        refine Evx.tu (fQ s (a + n1 + m1 + m2 + n2) d true (gBx 9 (bts nm) (0) (0))) 2 ?_
        (conv=>arg 1;ext i;whnf)
        refine Evx.call hin ?_
        (conv=>arg 1;ext i;whnf)
        refine Evx.cq ([.ptr 1 9 0, .d (.int .i64 ((1 : Nat) : Int)), .d (.int .i64 ((1 : Nat) : Int))]) (qB s (a + n1 + m1 + m2 + n2) (d + 1) true) 1 ?_
        refine rkidsB 1 1 s (a + n1 + m1 + m2 + n2) (by omega) (d + 1) _ _ _ ?_
        refine Evx.tu (fQ s (a + n1 + m1 + m2 + n2) (d + 1) true (gBx 9 (bts nm) (0) (0))) 2 ?_
        (conv=>arg 1;ext i;whnf)
        refine Evx.call hbi ?_
        (conv=>arg 1;ext i;whnf)
        refine Evx.int (n' := d) (by rw [wrap_small] <;> omega) ?_
        (conv=>arg 1;ext i;whnf)
        refine Evx.cq ([.ptr 1 9 0, .d (.str (bts [41]))]) (qB s (a + n1 + m1 + m2 + n2) d true) 1 ?_
        refine rlitB s _ (a + n1 + m1 + m2 + n2) d ?_
        refine Evx.tu (fQ s (a + n1 + m1 + m2 + n2) d true (kBx 9 (bts nm) (0) (0) [])) 2 ?_
        (conv=>arg 1;ext i;whnf)
        exact Evx.fq (hK)
      ·have hK := hnoA (Fm.node 9 ⟨#[]⟩ [] 0 0 []) m1 (by rw [thenNo g2]; rfl)
       have hin : Ev pr 69 [(Fm.node 9 ⟨#[]⟩ [] 0 0 []).d, .int .i64 d] (.ret [.d (.int .i64 (d + 1))]) := inside_ev (Fm.node 9 ⟨#[]⟩ [] 0 0 []) d hd0 (by omega)
       refine Evx.tu (fQ s (a + n1 + m1) d true (gBx 9 ⟨#[]⟩ 0 0)) 2 ?_
       (conv=>arg 1;ext i;whnf)
       refine Evx.cq ([.ptr 1 9 0, .d (.str (bts [40]))]) (qB s (a + n1 + m1) d true) 1 ?_
       refine rlitB s _ (a + n1 + m1) d ?_
       refine Evx.tu (fQ s (a + n1 + m1) d true (gBx 9 (⟨#[]⟩) (0) (0))) 2 ?_
       (conv=>arg 1;ext i;whnf)
       refine Evx.call hin ?_
       (conv=>arg 1;ext i;whnf)
       refine Evx.cq ([.ptr 1 9 0, .d (.int .i64 ((1 : Nat) : Int)), .d (.int .i64 ((1 : Nat) : Int))]) (qB s (a + n1 + m1) (d + 1) true) 1 ?_
       refine rkidsB 1 1 s (a + n1 + m1) (by omega) (d + 1) _ _ _ ?_
       refine Evx.tu (fQ s (a + n1 + m1) (d + 1) true (gBx 9 (⟨#[]⟩) (0) (0))) 2 ?_
       (conv=>arg 1;ext i;whnf)
       refine Evx.call hbi ?_
       (conv=>arg 1;ext i;whnf)
       refine Evx.int (n' := d) (by rw [wrap_small] <;> omega) ?_
       (conv=>arg 1;ext i;whnf)
       refine Evx.cq ([.ptr 1 9 0, .d (.str (bts [41]))]) (qB s (a + n1 + m1) d true) 1 ?_
       refine rlitB s _ (a + n1 + m1) d ?_
       refine Evx.tu (fQ s (a + n1 + m1) d true (kBx 9 (⟨#[]⟩) (0) (0) [])) 2 ?_
       (conv=>arg 1;ext i;whnf)
       exact Evx.fq (hK)
     ·have hK := hnoA (Fm.node 9 ⟨#[]⟩ [] 0 0 []) m1 (by rw [thenNo g1])
      have hm1 := (lit_len [32] (s.data.toList.drop (a + n1))).1
      rw [g1, drop_len] at hm1
      have hm1 : m1 ≤ s.size - (a + n1) := hm1
      have hin : Ev pr 69 [(Fm.node 9 ⟨#[]⟩ [] 0 0 []).d, .int .i64 d] (.ret [.d (.int .i64 (d + 1))]) := inside_ev (Fm.node 9 ⟨#[]⟩ [] 0 0 []) d hd0 (by omega)
      refine Evx.tu (fQ s (a + n1 + m1) d true (gBx 9 ⟨#[]⟩ 0 0)) 2 ?_
      (conv=>arg 1;ext i;whnf)
      refine Evx.cq ([.ptr 1 9 0]) (qB s (a + n1 + m1) d true) 1 ?_
      refine rsymB s (a + n1 + m1) d ?_
      refine Evx.tu (fQ s (a + n1 + m1) d true (gBx 9 ⟨#[]⟩ 0 0)) 2 ?_
      (conv=>arg 1;ext i;whnf)
      refine Evx.cq ([.ptr 1 9 0, .d (.str (bts [40]))]) (qB s (a + n1 + m1) d true) 1 ?_
      refine rlitB s _ (a + n1 + m1) d ?_
      refine Evx.tu (fQ s (a + n1 + m1) d true (gBx 9 (⟨#[]⟩) (0) (0))) 2 ?_
      (conv=>arg 1;ext i;whnf)
      refine Evx.call hin ?_
      (conv=>arg 1;ext i;whnf)
      refine Evx.cq ([.ptr 1 9 0, .d (.int .i64 ((1 : Nat) : Int)), .d (.int .i64 ((1 : Nat) : Int))]) (qB s (a + n1 + m1) (d + 1) true) 1 ?_
      refine rkidsB 1 1 s (a + n1 + m1) (by omega) (d + 1) _ _ _ ?_
      refine Evx.tu (fQ s (a + n1 + m1) (d + 1) true (gBx 9 (⟨#[]⟩) (0) (0))) 2 ?_
      (conv=>arg 1;ext i;whnf)
      refine Evx.call hbi ?_
      (conv=>arg 1;ext i;whnf)
      refine Evx.int (n' := d) (by rw [wrap_small] <;> omega) ?_
      (conv=>arg 1;ext i;whnf)
      refine Evx.cq ([.ptr 1 9 0, .d (.str (bts [41]))]) (qB s (a + n1 + m1) d true) 1 ?_
      refine rlitB s _ (a + n1 + m1) d ?_
      refine Evx.tu (fQ s (a + n1 + m1) d true (kBx 9 (⟨#[]⟩) (0) (0) [])) 2 ?_
      (conv=>arg 1;ext i;whnf)
      exact Evx.fq (hK)
    ·have hbi : Ev pr 91 [.int .i64 10] (.ret [.d (.bool false)]) := rbinds_ev 10
     have hokA : ∀ v n, (thenP (litS [32] (s.data.toList.drop (a + n1))) (fun _ l => thenP (endS l) (fun p l => thenP (litS [32] l) (fun _ l => thenP (endS l) (fun q l => bodyS (F + 1) d 10 ⟨#[]⟩ p q 1 l) l) l) l) (s.data.toList.drop (a + n1))) = .ok v n → Evx (fun i => K i (.ret [.d v.d]) ⟨tabB (qB s (a + n1 + n) d false), 1, []⟩) r := fun v n h => by
      have := hok v (n1 + n) (by rw [thenOk h1, List.drop_drop]; simp [h, Rd.up])
      rwa [← Nat.add_assoc] at this
     have hnoA : ∀ (v : Fm) n, (thenP (litS [32] (s.data.toList.drop (a + n1))) (fun _ l => thenP (endS l) (fun p l => thenP (litS [32] l) (fun _ l => thenP (endS l) (fun q l => bodyS (F + 1) d 10 ⟨#[]⟩ p q 1 l) l) l) l) (s.data.toList.drop (a + n1))) = .no n → Evx (fun i => K i (.ret [.d v.d]) ⟨tabB (qB s (a + n1 + n) d true), 1, []⟩) r := fun v n h => by
      have := hno v (n1 + n) (by rw [thenOk h1, List.drop_drop]; simp [h, Rd.up])
      rwa [← Nat.add_assoc] at this
     clear hok hno
     (conv=>arg 1;ext i;whnf)
     repeat (refine Evx.bool (fun h => ?_) (fun h => ?_) <;> (try simp only [bbs] at h) <;> (first | (exfalso; omega) | exact absurd trivial h | (conv=>arg 1;ext i;whnf)))
     refine Evx.cq ([.ptr 1 9 0, .d (.str (bts [32]))]) (qB s (a + n1) d false) 1 ?_
     refine rlitE s hs [32] (by simp) (by decide) (a + n1) (by omega) d (fun m1 g1 => ?_) (fun m1 g1 => ?_)
     ·have hm1 := (lit_len [32] (s.data.toList.drop (a + n1))).1
      rw [g1, drop_len] at hm1
      have hm1 : m1 ≤ s.size - (a + n1) := hm1
      simp only [thenOk g1, List.drop_drop] at hokA hnoA
      refine Evx.tu (fQ s (a + n1 + m1) d false (gBx 10 ⟨#[]⟩ 0 0)) 2 ?_
      (conv=>arg 1;ext i;whnf)
      refine Evx.cq ([.ptr 1 9 0]) (qB s (a + n1 + m1) d false) 1 ?_
      refine rendE s hs (a + n1 + m1) (by omega) d (fun w1 m2 g2 => ?_) (fun w1 m2 g2 => ?_)
      ·have hm2 := end_len (s.data.toList.drop (a + n1 + m1))
       rw [g2, drop_len] at hm2
       have hm2 : m2 ≤ s.size - (a + n1 + m1) := hm2
       simp only [thenOk g2, List.drop_drop] at hokA hnoA
       refine Evx.tu (fQ s (a + n1 + m1 + m2) d false (gBx 10 ⟨#[]⟩ 0 0)) 2 ?_
       (conv=>arg 1;ext i;whnf)
       refine Evx.cq ([.ptr 1 9 0, .d (.str (bts [32]))]) (qB s (a + n1 + m1 + m2) d false) 1 ?_
       refine rlitE s hs [32] (by simp) (by decide) (a + n1 + m1 + m2) (by omega) d (fun m3 g3 => ?_) (fun m3 g3 => ?_)
       ·have hm3 := (lit_len [32] (s.data.toList.drop (a + n1 + m1 + m2))).1
        rw [g3, drop_len] at hm3
        have hm3 : m3 ≤ s.size - (a + n1 + m1 + m2) := hm3
        simp only [thenOk g3, List.drop_drop] at hokA hnoA
        refine Evx.tu (fQ s (a + n1 + m1 + m2 + m3) d false (gBx 10 ⟨#[]⟩ w1 0)) 2 ?_
        (conv=>arg 1;ext i;whnf)
        refine Evx.cq ([.ptr 1 9 0]) (qB s (a + n1 + m1 + m2 + m3) d false) 1 ?_
        refine rendE s hs (a + n1 + m1 + m2 + m3) (by omega) d (fun w2 m4 g4 => ?_) (fun w2 m4 g4 => ?_)
        ·have hm4 := end_len (s.data.toList.drop (a + n1 + m1 + m2 + m3))
         rw [g4, drop_len] at hm4
         have hm4 : m4 ≤ s.size - (a + n1 + m1 + m2 + m3) := hm4
         simp only [thenOk g4, List.drop_drop] at hokA hnoA
         have hokB : ∀ v n, bodyS (F + 1) d 10 ⟨#[]⟩ w1 w2 1 (s.data.toList.drop (a + n1 + m1 + m2 + m3 + m4)) = .ok v n → Evx (fun i => K i (.ret [.d v.d]) ⟨tabB (qB s (a + n1 + m1 + m2 + m3 + m4 + n) d false), 1, []⟩) r := fun v n h => by
          have := hokA v (m1 + (m2 + (m3 + (m4 + n)))) (by rw [h]; rfl)
          rwa [← Nat.add_assoc, ← Nat.add_assoc, ← Nat.add_assoc, ← Nat.add_assoc] at this
         have hnoB : ∀ (v : Fm) n, bodyS (F + 1) d 10 ⟨#[]⟩ w1 w2 1 (s.data.toList.drop (a + n1 + m1 + m2 + m3 + m4)) = .no n → Evx (fun i => K i (.ret [.d v.d]) ⟨tabB (qB s (a + n1 + m1 + m2 + m3 + m4 + n) d true), 1, []⟩) r := fun v n h => by
          have := hnoA v (m1 + (m2 + (m3 + (m4 + n)))) (by rw [h]; rfl)
          rwa [← Nat.add_assoc, ← Nat.add_assoc, ← Nat.add_assoc, ← Nat.add_assoc] at this
         clear hokA hnoA
         refine Evx.tu (fQ s (a + n1 + m1 + m2 + m3 + m4) d false (gBx 10 ⟨#[]⟩ w1 0)) 2 ?_
         (conv=>arg 1;ext i;whnf)
         have hin : Ev pr 69 [(Fm.node 10 (⟨#[]⟩) [] (w1) (w2) []).d, .int .i64 d] (.ret [.d (.int .i64 (d))]) := inside_ev (Fm.node 10 (⟨#[]⟩) [] (w1) (w2) []) d hd0 (by omega)
         have hbk := body_kids F (d) 10 (⟨#[]⟩) (w1) (w2) 1 1 1 (s.data.toList.drop (a + n1 + m1 + m2 + m3 + m4)) (by decide) (by rw [drop_len]; omega) (by rw [drop_len]; omega)
         simp only [hbk] at hokB hnoB
         refine Evx.cq ([.ptr 1 9 0, .d (.str (bts [40]))]) (qB s (a + n1 + m1 + m2 + m3 + m4) d false) 1 ?_
         refine rlitE s hs [40] (by simp) (by decide) (a + n1 + m1 + m2 + m3 + m4) (by omega) d (fun n2 h2 => ?_) (fun n2 h2 => ?_)
         ·have hn2 := (lit_len [40] (s.data.toList.drop (a + n1 + m1 + m2 + m3 + m4))).1
          rw [h2, drop_len] at hn2
          have hn2 : n2 ≤ s.size - (a + n1 + m1 + m2 + m3 + m4) := hn2
          simp only [thenOk h2, List.drop_drop] at hokB hnoB
          refine Evx.tu (fQ s (a + n1 + m1 + m2 + m3 + m4 + n2) d false (gBx 10 (⟨#[]⟩) (w1) (w2))) 2 ?_
          (conv=>arg 1;ext i;whnf)
          refine Evx.call hin ?_
          (conv=>arg 1;ext i;whnf)
          refine Evx.cq ([.ptr 1 9 0, .d (.int .i64 ((1 : Nat) : Int)), .d (.int .i64 ((1 : Nat) : Int))]) (qB s (a + n1 + m1 + m2 + m3 + m4 + n2) (d) false) 1 ?_
          refine rkidsE F (ih F (by omega)) 1 1 (by decide) s hs (a + n1 + m1 + m2 + m3 + m4 + n2) (by omega) (d) (by omega) (by omega) (by omega) _ _ _ (fun zs n3 h3 => ?_) (fun zs n3 h3 => ?_)
          ·have hn3 := kids_len F (d) 1 1 (s.data.toList.drop (a + n1 + m1 + m2 + m3 + m4 + n2))
           rw [h3, drop_len] at hn3
           have hn3 : n3 ≤ s.size - (a + n1 + m1 + m2 + m3 + m4 + n2) := hn3
           simp only [thenOk h3, List.drop_drop] at hokB hnoB
           refine Evx.tu (fQ s (a + n1 + m1 + m2 + m3 + m4 + n2 + n3) (d) false (gBx 10 (⟨#[]⟩) (w1) (w2))) 2 ?_
           (conv=>arg 1;ext i;whnf)
           refine Evx.call hbi ?_
           (conv=>arg 1;ext i;whnf)
           refine Evx.cq ([.ptr 1 9 0, .d (.str (bts [41]))]) (qB s (a + n1 + m1 + m2 + m3 + m4 + n2 + n3) d false) 1 ?_
           refine rlitE s hs [41] (by simp) (by decide) (a + n1 + m1 + m2 + m3 + m4 + n2 + n3) (by omega) d (fun n4 h4 => ?_) (fun n4 h4 => ?_)
           ·have hK := hokB (Fm.node 10 (⟨#[]⟩) [] (w1) (w2) zs) (n2 + (n3 + n4)) (by rw [h4]; rfl)
            rw [← Nat.add_assoc, ← Nat.add_assoc] at hK
            refine Evx.tu (fQ s (a + n1 + m1 + m2 + m3 + m4 + n2 + n3 + n4) d false (kBx 10 (⟨#[]⟩) (w1) (w2) zs)) 2 ?_
            (conv=>arg 1;ext i;whnf)
            exact Evx.fq (hK)
           ·have hK := hnoB (Fm.node 10 (⟨#[]⟩) [] (w1) (w2) zs) (n2 + (n3 + n4)) (by rw [h4]; rfl)
            rw [← Nat.add_assoc, ← Nat.add_assoc] at hK
            refine Evx.tu (fQ s (a + n1 + m1 + m2 + m3 + m4 + n2 + n3 + n4) d true (kBx 10 (⟨#[]⟩) (w1) (w2) zs)) 2 ?_
            (conv=>arg 1;ext i;whnf)
            exact Evx.fq (hK)
          ·have hK := hnoB (Fm.node 10 (⟨#[]⟩) [] (w1) (w2) zs) (n2 + n3) (by rw [thenNo h3]; rfl)
           rw [← Nat.add_assoc] at hK
           refine Evx.tu (fQ s (a + n1 + m1 + m2 + m3 + m4 + n2 + n3) (d) true (gBx 10 (⟨#[]⟩) (w1) (w2))) 2 ?_
           (conv=>arg 1;ext i;whnf)
           refine Evx.call hbi ?_
           (conv=>arg 1;ext i;whnf)
           refine Evx.cq ([.ptr 1 9 0, .d (.str (bts [41]))]) (qB s (a + n1 + m1 + m2 + m3 + m4 + n2 + n3) d true) 1 ?_
           refine rlitB s _ (a + n1 + m1 + m2 + m3 + m4 + n2 + n3) d ?_
           refine Evx.tu (fQ s (a + n1 + m1 + m2 + m3 + m4 + n2 + n3) d true (kBx 10 (⟨#[]⟩) (w1) (w2) zs)) 2 ?_
           (conv=>arg 1;ext i;whnf)
           exact Evx.fq (hK)
         ·have hK := hnoB (Fm.node 10 (⟨#[]⟩) [] (w1) (w2) []) n2 (by rw [thenNo h2])
          have hn2 := (lit_len [40] (s.data.toList.drop (a + n1 + m1 + m2 + m3 + m4))).1
          rw [h2, drop_len] at hn2
          have hn2 : n2 ≤ s.size - (a + n1 + m1 + m2 + m3 + m4) := hn2
          refine Evx.tu (fQ s (a + n1 + m1 + m2 + m3 + m4 + n2) d true (gBx 10 (⟨#[]⟩) (w1) (w2))) 2 ?_
          (conv=>arg 1;ext i;whnf)
          refine Evx.call hin ?_
          (conv=>arg 1;ext i;whnf)
          refine Evx.cq ([.ptr 1 9 0, .d (.int .i64 ((1 : Nat) : Int)), .d (.int .i64 ((1 : Nat) : Int))]) (qB s (a + n1 + m1 + m2 + m3 + m4 + n2) (d) true) 1 ?_
          refine rkidsB 1 1 s (a + n1 + m1 + m2 + m3 + m4 + n2) (by omega) (d) _ _ _ ?_
          refine Evx.tu (fQ s (a + n1 + m1 + m2 + m3 + m4 + n2) (d) true (gBx 10 (⟨#[]⟩) (w1) (w2))) 2 ?_
          (conv=>arg 1;ext i;whnf)
          refine Evx.call hbi ?_
          (conv=>arg 1;ext i;whnf)
          refine Evx.cq ([.ptr 1 9 0, .d (.str (bts [41]))]) (qB s (a + n1 + m1 + m2 + m3 + m4 + n2) d true) 1 ?_
          refine rlitB s _ (a + n1 + m1 + m2 + m3 + m4 + n2) d ?_
          refine Evx.tu (fQ s (a + n1 + m1 + m2 + m3 + m4 + n2) d true (kBx 10 (⟨#[]⟩) (w1) (w2) [])) 2 ?_
          (conv=>arg 1;ext i;whnf)
          exact Evx.fq (hK)
        ·have hm4 := end_len (s.data.toList.drop (a + n1 + m1 + m2 + m3))
         rw [g4, drop_len] at hm4
         have hm4 : m4 ≤ s.size - (a + n1 + m1 + m2 + m3) := hm4
         have hK := hnoA (Fm.node 10 ⟨#[]⟩ [] w1 w2 []) (m1 + (m2 + (m3 + m4))) (by rw [thenNo g4]; rfl)
         have hin : Ev pr 69 [(Fm.node 10 ⟨#[]⟩ [] w1 w2 []).d, .int .i64 d] (.ret [.d (.int .i64 d)]) := inside_ev (Fm.node 10 ⟨#[]⟩ [] w1 w2 []) d hd0 (by omega)
         rw [← Nat.add_assoc, ← Nat.add_assoc, ← Nat.add_assoc] at hK
         refine Evx.tu (fQ s (a + n1 + m1 + m2 + m3 + m4) d true (gBx 10 ⟨#[]⟩ w1 0)) 2 ?_
         (conv=>arg 1;ext i;whnf)
         refine Evx.cq ([.ptr 1 9 0, .d (.str (bts [40]))]) (qB s (a + n1 + m1 + m2 + m3 + m4) d true) 1 ?_
         refine rlitB s _ (a + n1 + m1 + m2 + m3 + m4) d ?_
         refine Evx.tu (fQ s (a + n1 + m1 + m2 + m3 + m4) d true (gBx 10 (⟨#[]⟩) (w1) (w2))) 2 ?_
         (conv=>arg 1;ext i;whnf)
         refine Evx.call hin ?_
         (conv=>arg 1;ext i;whnf)
         refine Evx.cq ([.ptr 1 9 0, .d (.int .i64 ((1 : Nat) : Int)), .d (.int .i64 ((1 : Nat) : Int))]) (qB s (a + n1 + m1 + m2 + m3 + m4) (d) true) 1 ?_
         refine rkidsB 1 1 s (a + n1 + m1 + m2 + m3 + m4) (by omega) (d) _ _ _ ?_
         refine Evx.tu (fQ s (a + n1 + m1 + m2 + m3 + m4) (d) true (gBx 10 (⟨#[]⟩) (w1) (w2))) 2 ?_
         (conv=>arg 1;ext i;whnf)
         refine Evx.call hbi ?_
         (conv=>arg 1;ext i;whnf)
         refine Evx.cq ([.ptr 1 9 0, .d (.str (bts [41]))]) (qB s (a + n1 + m1 + m2 + m3 + m4) d true) 1 ?_
         refine rlitB s _ (a + n1 + m1 + m2 + m3 + m4) d ?_
         refine Evx.tu (fQ s (a + n1 + m1 + m2 + m3 + m4) d true (kBx 10 (⟨#[]⟩) (w1) (w2) [])) 2 ?_
         (conv=>arg 1;ext i;whnf)
         exact Evx.fq (hK)
       ·have hm3 := (lit_len [32] (s.data.toList.drop (a + n1 + m1 + m2))).1
        rw [g3, drop_len] at hm3
        have hm3 : m3 ≤ s.size - (a + n1 + m1 + m2) := hm3
        refine Evx.tu (fQ s (a + n1 + m1 + m2 + m3) d true (gBx 10 ⟨#[]⟩ w1 0)) 2 ?_
        (conv=>arg 1;ext i;whnf)
        replace hnoA := fun v => hnoA v (m1 + (m2 + m3)) (by rw [thenNo g3]; rfl)
        simp only [← Nat.add_assoc] at hnoA
        refine Evx.cq ([.ptr 1 9 0]) (qB s (a + n1 + m1 + m2 + m3) d true) 1 ?_
        refine rendB s (a + n1 + m1 + m2 + m3) (by omega) d (fun w2 => ?_)
        have hK := hnoA (Fm.node 10 ⟨#[]⟩ [] (w1) w2 [])
        have hin : Ev pr 69 [(Fm.node 10 ⟨#[]⟩ [] (w1) w2 []).d, .int .i64 d] (.ret [.d (.int .i64 d)]) := inside_ev (Fm.node 10 ⟨#[]⟩ [] (w1) w2 []) d hd0 (by omega)
        refine Evx.tu (fQ s (a + n1 + m1 + m2 + m3) d true (gBx 10 ⟨#[]⟩ (w1) 0)) 2 ?_
        (conv=>arg 1;ext i;whnf)
        refine Evx.cq ([.ptr 1 9 0, .d (.str (bts [40]))]) (qB s (a + n1 + m1 + m2 + m3) d true) 1 ?_
        refine rlitB s _ (a + n1 + m1 + m2 + m3) d ?_
        refine Evx.tu (fQ s (a + n1 + m1 + m2 + m3) d true (gBx 10 (⟨#[]⟩) (w1) (w2))) 2 ?_
        (conv=>arg 1;ext i;whnf)
        refine Evx.call hin ?_
        (conv=>arg 1;ext i;whnf)
        refine Evx.cq ([.ptr 1 9 0, .d (.int .i64 ((1 : Nat) : Int)), .d (.int .i64 ((1 : Nat) : Int))]) (qB s (a + n1 + m1 + m2 + m3) (d) true) 1 ?_
        refine rkidsB 1 1 s (a + n1 + m1 + m2 + m3) (by omega) (d) _ _ _ ?_
        refine Evx.tu (fQ s (a + n1 + m1 + m2 + m3) (d) true (gBx 10 (⟨#[]⟩) (w1) (w2))) 2 ?_
        (conv=>arg 1;ext i;whnf)
        refine Evx.call hbi ?_
        (conv=>arg 1;ext i;whnf)
        refine Evx.cq ([.ptr 1 9 0, .d (.str (bts [41]))]) (qB s (a + n1 + m1 + m2 + m3) d true) 1 ?_
        refine rlitB s _ (a + n1 + m1 + m2 + m3) d ?_
        refine Evx.tu (fQ s (a + n1 + m1 + m2 + m3) d true (kBx 10 (⟨#[]⟩) (w1) (w2) [])) 2 ?_
        (conv=>arg 1;ext i;whnf)
        exact Evx.fq (hK)
      ·have hm2 := end_len (s.data.toList.drop (a + n1 + m1))
       rw [g2, drop_len] at hm2
       have hm2 : m2 ≤ s.size - (a + n1 + m1) := hm2
       replace hnoA := fun v => hnoA v (m1 + m2) (by rw [thenNo g2]; rfl)
       simp only [← Nat.add_assoc] at hnoA
       refine Evx.tu (fQ s (a + n1 + m1 + m2) d true (gBx 10 ⟨#[]⟩ 0 0)) 2 ?_
       (conv=>arg 1;ext i;whnf)
       refine Evx.cq ([.ptr 1 9 0, .d (.str (bts [32]))]) (qB s (a + n1 + m1 + m2) d true) 1 ?_
       refine rlitB s _ (a + n1 + m1 + m2) d ?_
       refine Evx.tu (fQ s (a + n1 + m1 + m2) d true (gBx 10 ⟨#[]⟩ (w1) 0)) 2 ?_
       (conv=>arg 1;ext i;whnf)
       refine Evx.cq ([.ptr 1 9 0]) (qB s (a + n1 + m1 + m2) d true) 1 ?_
       refine rendB s (a + n1 + m1 + m2) (by omega) d (fun w2 => ?_)
       have hK := hnoA (Fm.node 10 ⟨#[]⟩ [] (w1) w2 [])
       have hin : Ev pr 69 [(Fm.node 10 ⟨#[]⟩ [] (w1) w2 []).d, .int .i64 d] (.ret [.d (.int .i64 d)]) := inside_ev (Fm.node 10 ⟨#[]⟩ [] (w1) w2 []) d hd0 (by omega)
       refine Evx.tu (fQ s (a + n1 + m1 + m2) d true (gBx 10 ⟨#[]⟩ (w1) 0)) 2 ?_
       (conv=>arg 1;ext i;whnf)
       refine Evx.cq ([.ptr 1 9 0, .d (.str (bts [40]))]) (qB s (a + n1 + m1 + m2) d true) 1 ?_
       refine rlitB s _ (a + n1 + m1 + m2) d ?_
       refine Evx.tu (fQ s (a + n1 + m1 + m2) d true (gBx 10 (⟨#[]⟩) (w1) (w2))) 2 ?_
       (conv=>arg 1;ext i;whnf)
       refine Evx.call hin ?_
       (conv=>arg 1;ext i;whnf)
       refine Evx.cq ([.ptr 1 9 0, .d (.int .i64 ((1 : Nat) : Int)), .d (.int .i64 ((1 : Nat) : Int))]) (qB s (a + n1 + m1 + m2) (d) true) 1 ?_
       refine rkidsB 1 1 s (a + n1 + m1 + m2) (by omega) (d) _ _ _ ?_
       refine Evx.tu (fQ s (a + n1 + m1 + m2) (d) true (gBx 10 (⟨#[]⟩) (w1) (w2))) 2 ?_
       (conv=>arg 1;ext i;whnf)
       refine Evx.call hbi ?_
       (conv=>arg 1;ext i;whnf)
       refine Evx.cq ([.ptr 1 9 0, .d (.str (bts [41]))]) (qB s (a + n1 + m1 + m2) d true) 1 ?_
       refine rlitB s _ (a + n1 + m1 + m2) d ?_
       refine Evx.tu (fQ s (a + n1 + m1 + m2) d true (kBx 10 (⟨#[]⟩) (w1) (w2) [])) 2 ?_
       (conv=>arg 1;ext i;whnf)
       exact Evx.fq (hK)
     ·have hm1 := (lit_len [32] (s.data.toList.drop (a + n1))).1
      rw [g1, drop_len] at hm1
      have hm1 : m1 ≤ s.size - (a + n1) := hm1
      replace hnoA := fun v => hnoA v m1 (by rw [thenNo g1])
      refine Evx.tu (fQ s (a + n1 + m1) d true (gBx 10 ⟨#[]⟩ 0 0)) 2 ?_
      (conv=>arg 1;ext i;whnf)
      refine Evx.cq ([.ptr 1 9 0]) (qB s (a + n1 + m1) d true) 1 ?_
      refine rendB s (a + n1 + m1) (by omega) d (fun w1 => ?_)
      refine Evx.tu (fQ s (a + n1 + m1) d true (gBx 10 ⟨#[]⟩ 0 0)) 2 ?_
      (conv=>arg 1;ext i;whnf)
      refine Evx.cq ([.ptr 1 9 0, .d (.str (bts [32]))]) (qB s (a + n1 + m1) d true) 1 ?_
      refine rlitB s _ (a + n1 + m1) d ?_
      refine Evx.tu (fQ s (a + n1 + m1) d true (gBx 10 ⟨#[]⟩ (w1) 0)) 2 ?_
      (conv=>arg 1;ext i;whnf)
      refine Evx.cq ([.ptr 1 9 0]) (qB s (a + n1 + m1) d true) 1 ?_
      refine rendB s (a + n1 + m1) (by omega) d (fun w2 => ?_)
      have hK := hnoA (Fm.node 10 ⟨#[]⟩ [] (w1) w2 [])
      have hin : Ev pr 69 [(Fm.node 10 ⟨#[]⟩ [] (w1) w2 []).d, .int .i64 d] (.ret [.d (.int .i64 d)]) := inside_ev (Fm.node 10 ⟨#[]⟩ [] (w1) w2 []) d hd0 (by omega)
      refine Evx.tu (fQ s (a + n1 + m1) d true (gBx 10 ⟨#[]⟩ (w1) 0)) 2 ?_
      (conv=>arg 1;ext i;whnf)
      refine Evx.cq ([.ptr 1 9 0, .d (.str (bts [40]))]) (qB s (a + n1 + m1) d true) 1 ?_
      refine rlitB s _ (a + n1 + m1) d ?_
      refine Evx.tu (fQ s (a + n1 + m1) d true (gBx 10 (⟨#[]⟩) (w1) (w2))) 2 ?_
      (conv=>arg 1;ext i;whnf)
      refine Evx.call hin ?_
      (conv=>arg 1;ext i;whnf)
      refine Evx.cq ([.ptr 1 9 0, .d (.int .i64 ((1 : Nat) : Int)), .d (.int .i64 ((1 : Nat) : Int))]) (qB s (a + n1 + m1) (d) true) 1 ?_
      refine rkidsB 1 1 s (a + n1 + m1) (by omega) (d) _ _ _ ?_
      refine Evx.tu (fQ s (a + n1 + m1) (d) true (gBx 10 (⟨#[]⟩) (w1) (w2))) 2 ?_
      (conv=>arg 1;ext i;whnf)
      refine Evx.call hbi ?_
      (conv=>arg 1;ext i;whnf)
      refine Evx.cq ([.ptr 1 9 0, .d (.str (bts [41]))]) (qB s (a + n1 + m1) d true) 1 ?_
      refine rlitB s _ (a + n1 + m1) d ?_
      refine Evx.tu (fQ s (a + n1 + m1) d true (kBx 10 (⟨#[]⟩) (w1) (w2) [])) 2 ?_
      (conv=>arg 1;ext i;whnf)
      exact Evx.fq (hK)
    ·have hbi : Ev pr 91 [.int .i64 11] (.ret [.d (.bool false)]) := rbinds_ev 11
     have hokB : ∀ v n, bodyS (F + 1) d 11 ⟨#[]⟩ 0 0 1 (s.data.toList.drop (a + n1)) = .ok v n → Evx (fun i => K i (.ret [.d v.d]) ⟨tabB (qB s (a + n1 + n) d false), 1, []⟩) r := fun v n h => by
      have := hok v (n1 + n) (by rw [thenOk h1, List.drop_drop]; simp [h, Rd.up])
      rwa [← Nat.add_assoc] at this
     have hnoB : ∀ (v : Fm) n, bodyS (F + 1) d 11 ⟨#[]⟩ 0 0 1 (s.data.toList.drop (a + n1)) = .no n → Evx (fun i => K i (.ret [.d v.d]) ⟨tabB (qB s (a + n1 + n) d true), 1, []⟩) r := fun v n h => by
      have := hno v (n1 + n) (by rw [thenOk h1, List.drop_drop]; simp [h, Rd.up])
      rwa [← Nat.add_assoc] at this
     clear hok hno
     (conv=>arg 1;ext i;whnf)
     repeat (refine Evx.bool (fun h => ?_) (fun h => ?_) <;> (try simp only [bbs] at h) <;> (first | (exfalso; omega) | exact absurd trivial h | (conv=>arg 1;ext i;whnf)))
     have hin : Ev pr 69 [(Fm.node 11 (⟨#[]⟩) [] (0) (0) []).d, .int .i64 d] (.ret [.d (.int .i64 (d))]) := inside_ev (Fm.node 11 (⟨#[]⟩) [] (0) (0) []) d hd0 (by omega)
     have hbk := body_kids F (d) 11 (⟨#[]⟩) (0) (0) 1 1 1 (s.data.toList.drop (a + n1)) (by decide) (by rw [drop_len]; omega) (by rw [drop_len]; omega)
     simp only [hbk] at hokB hnoB
     refine Evx.cq ([.ptr 1 9 0, .d (.str (bts [40]))]) (qB s (a + n1) d false) 1 ?_
     refine rlitE s hs [40] (by simp) (by decide) (a + n1) (by omega) d (fun n2 h2 => ?_) (fun n2 h2 => ?_)
     ·have hn2 := (lit_len [40] (s.data.toList.drop (a + n1))).1
      rw [h2, drop_len] at hn2
      have hn2 : n2 ≤ s.size - (a + n1) := hn2
      simp only [thenOk h2, List.drop_drop] at hokB hnoB
      refine Evx.tu (fQ s (a + n1 + n2) d false (gBx 11 (⟨#[]⟩) (0) (0))) 2 ?_
      (conv=>arg 1;ext i;whnf)
      refine Evx.call hin ?_
      (conv=>arg 1;ext i;whnf)
      refine Evx.cq ([.ptr 1 9 0, .d (.int .i64 ((1 : Nat) : Int)), .d (.int .i64 ((1 : Nat) : Int))]) (qB s (a + n1 + n2) (d) false) 1 ?_
      refine rkidsE F (ih F (by omega)) 1 1 (by decide) s hs (a + n1 + n2) (by omega) (d) (by omega) (by omega) (by omega) _ _ _ (fun zs n3 h3 => ?_) (fun zs n3 h3 => ?_)
      ·have hn3 := kids_len F (d) 1 1 (s.data.toList.drop (a + n1 + n2))
       rw [h3, drop_len] at hn3
       have hn3 : n3 ≤ s.size - (a + n1 + n2) := hn3
       simp only [thenOk h3, List.drop_drop] at hokB hnoB
       refine Evx.tu (fQ s (a + n1 + n2 + n3) (d) false (gBx 11 (⟨#[]⟩) (0) (0))) 2 ?_
       (conv=>arg 1;ext i;whnf)
       refine Evx.call hbi ?_
       (conv=>arg 1;ext i;whnf)
       refine Evx.cq ([.ptr 1 9 0, .d (.str (bts [41]))]) (qB s (a + n1 + n2 + n3) d false) 1 ?_
       refine rlitE s hs [41] (by simp) (by decide) (a + n1 + n2 + n3) (by omega) d (fun n4 h4 => ?_) (fun n4 h4 => ?_)
       ·have hK := hokB (Fm.node 11 (⟨#[]⟩) [] (0) (0) zs) (n2 + (n3 + n4)) (by rw [h4]; rfl)
        rw [← Nat.add_assoc, ← Nat.add_assoc] at hK
        refine Evx.tu (fQ s (a + n1 + n2 + n3 + n4) d false (kBx 11 (⟨#[]⟩) (0) (0) zs)) 2 ?_
        (conv=>arg 1;ext i;whnf)
        exact Evx.fq (hK)
       ·have hK := hnoB (Fm.node 11 (⟨#[]⟩) [] (0) (0) zs) (n2 + (n3 + n4)) (by rw [h4]; rfl)
        rw [← Nat.add_assoc, ← Nat.add_assoc] at hK
        refine Evx.tu (fQ s (a + n1 + n2 + n3 + n4) d true (kBx 11 (⟨#[]⟩) (0) (0) zs)) 2 ?_
        (conv=>arg 1;ext i;whnf)
        exact Evx.fq (hK)
      ·have hK := hnoB (Fm.node 11 (⟨#[]⟩) [] (0) (0) zs) (n2 + n3) (by rw [thenNo h3]; rfl)
       rw [← Nat.add_assoc] at hK
       refine Evx.tu (fQ s (a + n1 + n2 + n3) (d) true (gBx 11 (⟨#[]⟩) (0) (0))) 2 ?_
       (conv=>arg 1;ext i;whnf)
       refine Evx.call hbi ?_
       (conv=>arg 1;ext i;whnf)
       refine Evx.cq ([.ptr 1 9 0, .d (.str (bts [41]))]) (qB s (a + n1 + n2 + n3) d true) 1 ?_
       refine rlitB s _ (a + n1 + n2 + n3) d ?_
       refine Evx.tu (fQ s (a + n1 + n2 + n3) d true (kBx 11 (⟨#[]⟩) (0) (0) zs)) 2 ?_
       (conv=>arg 1;ext i;whnf)
       exact Evx.fq (hK)
     ·have hK := hnoB (Fm.node 11 (⟨#[]⟩) [] (0) (0) []) n2 (by rw [thenNo h2])
      have hn2 := (lit_len [40] (s.data.toList.drop (a + n1))).1
      rw [h2, drop_len] at hn2
      have hn2 : n2 ≤ s.size - (a + n1) := hn2
      refine Evx.tu (fQ s (a + n1 + n2) d true (gBx 11 (⟨#[]⟩) (0) (0))) 2 ?_
      (conv=>arg 1;ext i;whnf)
      refine Evx.call hin ?_
      (conv=>arg 1;ext i;whnf)
      refine Evx.cq ([.ptr 1 9 0, .d (.int .i64 ((1 : Nat) : Int)), .d (.int .i64 ((1 : Nat) : Int))]) (qB s (a + n1 + n2) (d) true) 1 ?_
      refine rkidsB 1 1 s (a + n1 + n2) (by omega) (d) _ _ _ ?_
      refine Evx.tu (fQ s (a + n1 + n2) (d) true (gBx 11 (⟨#[]⟩) (0) (0))) 2 ?_
      (conv=>arg 1;ext i;whnf)
      refine Evx.call hbi ?_
      (conv=>arg 1;ext i;whnf)
      refine Evx.cq ([.ptr 1 9 0, .d (.str (bts [41]))]) (qB s (a + n1 + n2) d true) 1 ?_
      refine rlitB s _ (a + n1 + n2) d ?_
      refine Evx.tu (fQ s (a + n1 + n2) d true (kBx 11 (⟨#[]⟩) (0) (0) [])) 2 ?_
      (conv=>arg 1;ext i;whnf)
      exact Evx.fq (hK)
    ·have hbi : Ev pr 91 [.int .i64 12] (.ret [.d (.bool false)]) := rbinds_ev 12
     have hokB : ∀ v n, bodyS (F + 1) d 12 ⟨#[]⟩ 0 0 1 (s.data.toList.drop (a + n1)) = .ok v n → Evx (fun i => K i (.ret [.d v.d]) ⟨tabB (qB s (a + n1 + n) d false), 1, []⟩) r := fun v n h => by
      have := hok v (n1 + n) (by rw [thenOk h1, List.drop_drop]; simp [h, Rd.up])
      rwa [← Nat.add_assoc] at this
     have hnoB : ∀ (v : Fm) n, bodyS (F + 1) d 12 ⟨#[]⟩ 0 0 1 (s.data.toList.drop (a + n1)) = .no n → Evx (fun i => K i (.ret [.d v.d]) ⟨tabB (qB s (a + n1 + n) d true), 1, []⟩) r := fun v n h => by
      have := hno v (n1 + n) (by rw [thenOk h1, List.drop_drop]; simp [h, Rd.up])
      rwa [← Nat.add_assoc] at this
     clear hok hno
     (conv=>arg 1;ext i;whnf)
     repeat (refine Evx.bool (fun h => ?_) (fun h => ?_) <;> (try simp only [bbs] at h) <;> (first | (exfalso; omega) | exact absurd trivial h | (conv=>arg 1;ext i;whnf)))
     have hin : Ev pr 69 [(Fm.node 12 (⟨#[]⟩) [] (0) (0) []).d, .int .i64 d] (.ret [.d (.int .i64 (d))]) := inside_ev (Fm.node 12 (⟨#[]⟩) [] (0) (0) []) d hd0 (by omega)
     have hbk := body_kids F (d) 12 (⟨#[]⟩) (0) (0) 1 1 1 (s.data.toList.drop (a + n1)) (by decide) (by rw [drop_len]; omega) (by rw [drop_len]; omega)
     simp only [hbk] at hokB hnoB
     refine Evx.cq ([.ptr 1 9 0, .d (.str (bts [40]))]) (qB s (a + n1) d false) 1 ?_
     refine rlitE s hs [40] (by simp) (by decide) (a + n1) (by omega) d (fun n2 h2 => ?_) (fun n2 h2 => ?_)
     ·have hn2 := (lit_len [40] (s.data.toList.drop (a + n1))).1
      rw [h2, drop_len] at hn2
      have hn2 : n2 ≤ s.size - (a + n1) := hn2
      simp only [thenOk h2, List.drop_drop] at hokB hnoB
      refine Evx.tu (fQ s (a + n1 + n2) d false (gBx 12 (⟨#[]⟩) (0) (0))) 2 ?_
      (conv=>arg 1;ext i;whnf)
      refine Evx.call hin ?_
      (conv=>arg 1;ext i;whnf)
      refine Evx.cq ([.ptr 1 9 0, .d (.int .i64 ((1 : Nat) : Int)), .d (.int .i64 ((1 : Nat) : Int))]) (qB s (a + n1 + n2) (d) false) 1 ?_
      refine rkidsE F (ih F (by omega)) 1 1 (by decide) s hs (a + n1 + n2) (by omega) (d) (by omega) (by omega) (by omega) _ _ _ (fun zs n3 h3 => ?_) (fun zs n3 h3 => ?_)
      ·have hn3 := kids_len F (d) 1 1 (s.data.toList.drop (a + n1 + n2))
       rw [h3, drop_len] at hn3
       have hn3 : n3 ≤ s.size - (a + n1 + n2) := hn3
       simp only [thenOk h3, List.drop_drop] at hokB hnoB
       refine Evx.tu (fQ s (a + n1 + n2 + n3) (d) false (gBx 12 (⟨#[]⟩) (0) (0))) 2 ?_
       (conv=>arg 1;ext i;whnf)
       refine Evx.call hbi ?_
       (conv=>arg 1;ext i;whnf)
       refine Evx.cq ([.ptr 1 9 0, .d (.str (bts [41]))]) (qB s (a + n1 + n2 + n3) d false) 1 ?_
       refine rlitE s hs [41] (by simp) (by decide) (a + n1 + n2 + n3) (by omega) d (fun n4 h4 => ?_) (fun n4 h4 => ?_)
       ·have hK := hokB (Fm.node 12 (⟨#[]⟩) [] (0) (0) zs) (n2 + (n3 + n4)) (by rw [h4]; rfl)
        rw [← Nat.add_assoc, ← Nat.add_assoc] at hK
        refine Evx.tu (fQ s (a + n1 + n2 + n3 + n4) d false (kBx 12 (⟨#[]⟩) (0) (0) zs)) 2 ?_
        (conv=>arg 1;ext i;whnf)
        exact Evx.fq (hK)
       ·have hK := hnoB (Fm.node 12 (⟨#[]⟩) [] (0) (0) zs) (n2 + (n3 + n4)) (by rw [h4]; rfl)
        rw [← Nat.add_assoc, ← Nat.add_assoc] at hK
        refine Evx.tu (fQ s (a + n1 + n2 + n3 + n4) d true (kBx 12 (⟨#[]⟩) (0) (0) zs)) 2 ?_
        (conv=>arg 1;ext i;whnf)
        exact Evx.fq (hK)
      ·have hK := hnoB (Fm.node 12 (⟨#[]⟩) [] (0) (0) zs) (n2 + n3) (by rw [thenNo h3]; rfl)
       rw [← Nat.add_assoc] at hK
       refine Evx.tu (fQ s (a + n1 + n2 + n3) (d) true (gBx 12 (⟨#[]⟩) (0) (0))) 2 ?_
       (conv=>arg 1;ext i;whnf)
       refine Evx.call hbi ?_
       (conv=>arg 1;ext i;whnf)
       refine Evx.cq ([.ptr 1 9 0, .d (.str (bts [41]))]) (qB s (a + n1 + n2 + n3) d true) 1 ?_
       refine rlitB s _ (a + n1 + n2 + n3) d ?_
       refine Evx.tu (fQ s (a + n1 + n2 + n3) d true (kBx 12 (⟨#[]⟩) (0) (0) zs)) 2 ?_
       (conv=>arg 1;ext i;whnf)
       exact Evx.fq (hK)
     ·have hK := hnoB (Fm.node 12 (⟨#[]⟩) [] (0) (0) []) n2 (by rw [thenNo h2])
      have hn2 := (lit_len [40] (s.data.toList.drop (a + n1))).1
      rw [h2, drop_len] at hn2
      have hn2 : n2 ≤ s.size - (a + n1) := hn2
      refine Evx.tu (fQ s (a + n1 + n2) d true (gBx 12 (⟨#[]⟩) (0) (0))) 2 ?_
      (conv=>arg 1;ext i;whnf)
      refine Evx.call hin ?_
      (conv=>arg 1;ext i;whnf)
      refine Evx.cq ([.ptr 1 9 0, .d (.int .i64 ((1 : Nat) : Int)), .d (.int .i64 ((1 : Nat) : Int))]) (qB s (a + n1 + n2) (d) true) 1 ?_
      refine rkidsB 1 1 s (a + n1 + n2) (by omega) (d) _ _ _ ?_
      refine Evx.tu (fQ s (a + n1 + n2) (d) true (gBx 12 (⟨#[]⟩) (0) (0))) 2 ?_
      (conv=>arg 1;ext i;whnf)
      refine Evx.call hbi ?_
      (conv=>arg 1;ext i;whnf)
      refine Evx.cq ([.ptr 1 9 0, .d (.str (bts [41]))]) (qB s (a + n1 + n2) d true) 1 ?_
      refine rlitB s _ (a + n1 + n2) d ?_
      refine Evx.tu (fQ s (a + n1 + n2) d true (kBx 12 (⟨#[]⟩) (0) (0) [])) 2 ?_
      (conv=>arg 1;ext i;whnf)
      exact Evx.fq (hK)
   ·have hK := hno (Fm.node 0 ⟨#[]⟩ [] 0 0 []) n1 (by rw [thenNo h1])
    (conv=>arg 1;ext i;whnf)
    (refine Evx.bool (fun h => ?_) (fun h => ?_) <;> (try simp only [bbs] at h) <;> (first | (exfalso; omega) | exact absurd trivial h | (conv=>arg 1;ext i;whnf)))
    exact Evx.fq (hK)
 ·have hc : ¬ (97 ≤ hd (s.data.toList.drop a) ∧ hd (s.data.toList.drop a) ≤ 122) := by
   rw [hd_end (by omega)]; omega
  simp only [if_neg hc] at hok hno
  refine Evx.cq ([.ptr 1 9 0]) (qB s a d false) 1 ?_
  refine ropE s hs a ha d (fun v n1 h1 => ?_) (fun n1 h1 => ?_)
  ·have hn1 := op_two h1
   rw [drop_len] at hn1
   omega
  ·have hK := hno (Fm.node 0 ⟨#[]⟩ [] 0 0 []) n1 (by rw [thenNo h1])
   (conv=>arg 1;ext i;whnf)
   (refine Evx.bool (fun h => ?_) (fun h => ?_) <;> (try simp only [bbs] at h) <;> (first | (exfalso; omega) | exact absurd trivial h | (conv=>arg 1;ext i;whnf)))
   exact Evx.fq (hK)
end Go.Proofs.YtehkgiofchmpaaaDoor
namespace Go.Proofs.YtehkgiofchmpaaaDoor
open Go Go.Abs Go.Abs.Asks
set_option linter.unusedVariables false
set_option linter.unusedSimpArgs false
set_option linter.unusedSectionVars false
variable [Asks]
theorem fmAll (F : Nat) : FmT F := by
 induction F using Nat.strongRecOn with
 | _ F ih => exact fmE F ih
theorem parse_ev (s : ByteArray) (hs : s.size < 2 ^ 30) : Ev pr 18 [.str s] (.ret [.d (parseS s.data.toList).1.d, .d (.int .i64 (parseS s.data.toList).2.1), .d (.int .i64 (parseS s.data.toList).2.2)]) := by
 apply Ev.enter; intro c; (conv=>arg 1;ext i;whnf)
 refine Evx.cq ([.ptr 2 9 0, .d (.int .i64 0)]) (pB s 0) 2 ?_
 refine fmAll (4 * s.data.toList.length + 4) s hs 0 (Nat.zero_le _) 0 (by omega) (by omega) (by have e : s.data.toList.length = s.size := (by simp); omega) _ _ _ (fun v n hf => ?_) (fun n h => ?_)
 ·rw [List.drop_zero] at hf
  unfold parseS
  rw [hf]
  dsimp only
  rw [show s.data.toList.length = s.size by simp]
  (conv=>arg 1;ext i;whnf)
  (refine Evx.bool (fun h => ?_) (fun h => ?_) <;> (try simp only [bbs] at h) <;> (first | (exfalso; omega) | exact absurd trivial h | (conv=>arg 1;ext i;whnf)))
  ·rw [if_pos (by omega)]
   apply Evx.enter
   (conv=>arg 1;ext i;whnf)
   rw [Nat.zero_add]
   exact Evx.of_eq (G := fun _ => some _) (Evx.pure rfl) fun i => rfl
  ·rw [if_neg (by omega)]
   have hb := ((fm_len _).1 _ _).2 v n hf
   have hl := ((fm_len (4 * s.data.toList.length + 4)).1 0 s.data.toList).1
   rw [hf] at hl
   have hl : n ≤ s.data.toList.length := hl
   have hsz : s.data.toList.length = s.size := (by simp)
   refine Evx.call (limits_ev v (Fm.ok_of (by omega))) ?_
   (conv=>arg 1;ext i;whnf)
   (refine Evx.bool (fun h => ?_) (fun h => ?_) <;> (try simp only [bbs] at h) <;> (first | (exfalso; omega) | exact absurd trivial h | (conv=>arg 1;ext i;whnf)))
   ·rw [if_neg (by simp only [limitsB, Bool.and_eq_false_iff, decide_eq_false_iff_not] at *; omega)]
    exact Evx.of_eq (G := fun _ => some _) (Evx.pure rfl) fun i => rfl
   ·rw [if_pos (by simp only [limitsB, Bool.and_eq_true, decide_eq_true_eq] at *; omega)]
    exact Evx.of_eq (G := fun _ => some _) (Evx.pure rfl) fun i => rfl
 ·rw [List.drop_zero] at h
  unfold parseS
  rw [h]
  (conv=>arg 1;ext i;whnf)
  rw [Nat.zero_add]
  exact Evx.of_eq (G := fun _ => some _) (Evx.pure rfl) fun i => rfl
end Go.Proofs.YtehkgiofchmpaaaDoor
namespace Go.Proofs.YtehkgiofchmpaaaDoor
open Go Go.Abs Go.Abs.Asks
set_option linter.unusedVariables false
set_option linter.unusedSimpArgs false
set_option linter.unusedSectionVars false
variable [Asks]
theorem int_out {a b : Int} (h : a = b) : (Out.ret [AV.d (D.int .i64 a)] : Out) = Out.ret [AV.d (D.int .i64 b)] := by rw [h]
theorem number_ev (x y : Int) : Ev pr 64 [.int .i64 x, .int .i64 y] (.ret [.d (.int .i64 (numC x y))]) := by
 apply Ev.enter; intro k; (conv=>arg 1;ext i;whnf)
 repeat' (first | refine Evx.pure ?_ | (refine Evx.bool (fun h => ?_) (fun h => ?_) <;> (try simp only [bbs] at h) <;> (first | (exfalso; omega) | exact absurd trivial h | (conv=>arg 1;ext i;whnf))))
 all_goals refine int_out ?_
 all_goals unfold numC
 all_goals (repeat' split)
 all_goals omega
theorem text_ev (x y : ByteArray) : Ev pr 65 [.str x, .str y] (.ret [.d (.int .i64 (textC x y))]) := by
 apply Ev.enter; intro k; (conv=>arg 1;ext i;whnf)
 repeat' (first | refine Evx.pure ?_ | (refine Evx.bool (fun h => ?_) (fun h => ?_) <;> (try simp only [bbs] at h) <;> (first | (exfalso; omega) | exact absurd trivial h | (conv=>arg 1;ext i;whnf))))
 all_goals refine int_out ?_
 all_goals unfold textC
 all_goals simp_all
theorem rfirst_ev (xs : List Int) (h : xs.length < 2 ^ 30) : Ev pr 63 [.sl 1 (xs.map fun x => [.int .i64 x])] (.ret [.d (.int .i64 (firstC xs))]) := by
 apply Ev.enter; intro k; (conv=>arg 1;ext i;whnf)
 refine (Evx.loop hint63 2 (α := Nat) (fun a => [some (.d (.sl 1 (xs.map fun x => [.int .i64 x]))), some (.d (.int .i64 a))]) (fun a => []) 1 [] (fun a => xs.length - a) (fun a => .ret [.d (.int .i64 (firstC (xs.drop a)))]) ?_ 0 (fun _ => rfl) (fun _ => rfl) (fun _ => rfl) (fun _ => by kernel_rfl)).to rfl
 intro a bx L ih; (conv=>arg 1;ext i;whnf)
 refine Evx.bool (fun h2 => ?_) (fun h2 => ?_)
 ·have h2 := hold_true.1 h2
  simp only [List.length_map, decide_eq_true_eq] at h2
  obtain ⟨x, hx⟩ := get_some (l := xs) (i := a) (by omega)
  have hx' : (xs.map fun x => [D.int .i64 x])[a]? = some [.int .i64 x] := by rw [List.getElem?_map, hx]; rfl
  (conv=>arg 1;ext i;whnf)
  refine Evx.idx rfl hx' ?_
  (conv=>arg 1;ext i;whnf)
  (refine Evx.bool (fun h => ?_) (fun h => ?_) <;> (try simp only [bbs] at h) <;> (first | (exfalso; omega) | exact absurd trivial h | (conv=>arg 1;ext i;whnf)))
  ·refine Evx.idx rfl hx' ?_
   (conv=>arg 1;ext i;whnf)
   refine Evx.pure ?_
   rw [drop_cons hx]; simp_all [firstC]
  ·refine Evx.int (wrap_succ (by omega)) ?_
   (conv=>arg 1;ext i;whnf)
   refine (ih (a + 1) _ (by omega) (fun _ => by kernel_rfl)).to ?_
   rw [drop_cons hx]; simp_all [firstC]
 ·have h2 := hold_false.1 h2
  simp only [List.length_map, decide_eq_false_iff_not] at h2
  (conv=>arg 1;ext i;whnf)
  refine Evx.pure ?_
  rw [List.drop_eq_nil_of_le (by omega)]; rfl
theorem rargs_ev (xs ys : List Rf) (hx : xs.length < 2 ^ 30) (hy : ys.length < 2 ^ 30) : Ev pr 66 [.sl 3 (refs xs), .sl 3 (refs ys)] (.ret [.d (.int .i64 (refsC xs ys))]) := by
 apply Ev.enter; intro k; (conv=>arg 1;ext i;whnf)
 refine (Evx.loop hint66 2 (α := { a : Nat // a ≤ xs.length ∧ a ≤ ys.length }) (fun a => [some (.d (.sl 3 (refs xs))), some (.d (.sl 3 (refs ys))), some (.d (.int .i64 (a.1 : Int)))]) (fun a => []) 1 [] (fun a => xs.length - a.1) (fun a => .ret [.d (.int .i64 (refsC (xs.drop a.1) (ys.drop a.1)))]) ?_ ⟨0, Nat.zero_le _, Nat.zero_le _⟩ (fun _ => rfl) (fun _ => rfl) (fun _ => rfl) (fun _ => by kernel_rfl)).to rfl
 rintro ⟨a, ha1, ha2⟩ bx L ih; (conv=>arg 1;ext i;whnf)
 have last : (xs.length ≤ a ∨ ys.length ≤ a) → Ev pr 64 [.int .i64 (refs xs).length, .int .i64 (refs ys).length] (.ret [.d (.int .i64 (refsC (xs.drop a) (ys.drop a)))]) := fun h => by
  rw [refsC_end (h.imp List.drop_eq_nil_of_le List.drop_eq_nil_of_le), ← numC_len ha1 ha2, refs_len, refs_len]
  exact number_ev _ _
 (refine Evx.bool (fun h => ?_) (fun h => ?_) <;> (try simp only [bbs] at h) <;> (first | (exfalso; omega) | exact absurd trivial h | (conv=>arg 1;ext i;whnf)))
 ·(refine Evx.bool (fun h => ?_) (fun h => ?_) <;> (try simp only [bbs] at h) <;> (first | (exfalso; omega) | exact absurd trivial h | (conv=>arg 1;ext i;whnf)))
  ·obtain ⟨x, hx'⟩ := get_some (l := xs) (i := a) (by omega)
   obtain ⟨y, hy'⟩ := get_some (l := ys) (i := a) (by omega)
   repeat' (first | (refine Evx.idx rfl (refs_get hx') ?_; (conv=>arg 1;ext i;whnf)) | (refine Evx.idx rfl (refs_get hy') ?_; (conv=>arg 1;ext i;whnf)) | (refine Evx.call (number_ev _ _) ?_; (conv=>arg 1;ext i;whnf)) | (refine Evx.call (text_ev _ _) ?_; (conv=>arg 1;ext i;whnf)))
   refine Evx.call (rfirst_ev [numC x.kind y.kind, numC x.idx y.idx, textC x.nm y.nm] (by simp)) ?_
   (conv=>arg 1;ext i;whnf)
   (refine Evx.bool (fun h => ?_) (fun h => ?_) <;> (try simp only [bbs] at h) <;> (first | (exfalso; omega) | exact absurd trivial h | (conv=>arg 1;ext i;whnf)))
   ·refine Evx.pure ?_
    rw [drop_cons hx', drop_cons hy', refsC_cons]
    simp_all [refC]
   ·refine Evx.int (wrap_succ (n := a) (by omega)) ?_
    (conv=>arg 1;ext i;whnf)
    refine (ih ⟨a + 1, by omega, by omega⟩ _ (by dsimp only; omega) (fun _ => by kernel_rfl)).to ?_
    rw [drop_cons hx', drop_cons hy', refsC_cons]
    simp_all [refC]
  ·refine Evx.call (last (by omega)) ?_
   (conv=>arg 1;ext i;whnf)
   exact Evx.pure rfl
 ·refine Evx.call (last (by omega)) ?_
  (conv=>arg 1;ext i;whnf)
  exact Evx.pure rfl
theorem rcmp_ev (t : Fm) : ∀ u : Fm, t.ok → u.ok → Ev pr 34 [t.d, u.d] (.ret [.d (.int .i64 (t.cmp u))]) := by
 induction t using Fm.rec' with
 | _ t ih =>
  intro u ht hu
  have hk := ht.ks
  have hk' := hu.ks
  apply Ev.enter; intro k; (conv=>arg 1;ext i;whnf)
  repeat' (first | (refine Evx.call (number_ev _ _) ?_; (conv=>arg 1;ext i;whnf)) | (refine Evx.call (text_ev _ _) ?_; (conv=>arg 1;ext i;whnf)) | (refine Evx.call (rargs_ev t.as u.as ht.as hu.as) ?_; (conv=>arg 1;ext i;whnf)))
  refine Evx.call (rfirst_ev [numC t.op u.op, textC t.nm u.nm, refsC t.as u.as, numC t.fr u.fr, numC t.to u.to] (by simp)) ?_
  (conv=>arg 1;ext i;whnf)
  refine (Evx.loop hint34 3 (α := { p : Int × Nat // p.2 ≤ t.ks.length ∧ p.2 ≤ u.ks.length }) (fun p => [some (.ptr 1 2 0), some (.ptr 1 3 0), some (.d (.int .i64 p.1.1)), some (.d (.int .i64 (p.1.2 : Int)))]) (fun p => [some (fmBox t), some (fmBox u)]) 1 [] (fun p => t.ks.length - p.1.2) (fun p => .ret [.d (.int .i64 (if p.1.1 = 0 then cmps (t.ks.drop p.1.2) (u.ks.drop p.1.2) else p.1.1))]) ?_ ⟨(nodeC t u, 0), Nat.zero_le _, Nat.zero_le _⟩ (fun _ => rfl) (fun _ => rfl) (fun _ => rfl) (fun _ => by kernel_rfl)).to (by rw [Fm.cmp_eq]; rfl)
  rintro ⟨⟨c, a⟩, ha1, ha2⟩ bx L ih'; (conv=>arg 1;ext i;whnf)
  have last : c ≠ 0 ∨ t.ks.length ≤ a ∨ u.ks.length ≤ a → firstC [c, numC (fms t.ks).length (fms u.ks).length] = if c = 0 then cmps (t.ks.drop a) (u.ks.drop a) else c := fun h => by
   simp only [firstC]
   split
   ·rename_i h0
    rw [cmps_end ((h.resolve_left (fun h => h h0)).imp List.drop_eq_nil_of_le List.drop_eq_nil_of_le), ← numC_len ha1 ha2, fms_len, fms_len]
    split <;> simp_all
   ·rfl
  have fin : ∀ (h : c ≠ 0 ∨ t.ks.length ≤ a ∨ u.ks.length ≤ a), Ev pr 63 [.sl 1 ([c, numC (fms t.ks).length (fms u.ks).length].map fun x => [.int .i64 x])] (.ret [.d (.int .i64 (if c = 0 then cmps (t.ks.drop a) (u.ks.drop a) else c))]) := fun h => by
   rw [← last h]; exact rfirst_ev _ (by simp)
  (refine Evx.bool (fun h => ?_) (fun h => ?_) <;> (try simp only [bbs] at h) <;> (first | (exfalso; omega) | exact absurd trivial h | (conv=>arg 1;ext i;whnf)))
  ·(refine Evx.bool (fun h => ?_) (fun h => ?_) <;> (try simp only [bbs] at h) <;> (first | (exfalso; omega) | exact absurd trivial h | (conv=>arg 1;ext i;whnf)))
   ·(refine Evx.bool (fun h => ?_) (fun h => ?_) <;> (try simp only [bbs] at h) <;> (first | (exfalso; omega) | exact absurd trivial h | (conv=>arg 1;ext i;whnf)))
    ·obtain ⟨x, hx⟩ := get_some (l := t.ks) (i := a) (by omega)
     obtain ⟨y, hy⟩ := get_some (l := u.ks) (i := a) (by omega)
     refine Evx.idx rfl (fms_get hx) ?_
     (conv=>arg 1;ext i;whnf)
     refine Evx.idx rfl (fms_get hy) ?_
     (conv=>arg 1;ext i;whnf)
     refine Evx.call (ih a x hx y (ht.kid hx) (hu.kid hy)) ?_
     (conv=>arg 1;ext i;whnf)
     refine Evx.int (wrap_succ (n := a) (by omega)) ?_
     (conv=>arg 1;ext i;whnf)
     refine (ih' ⟨(x.cmp y, a + 1), by dsimp only; omega, by dsimp only; omega⟩ _ (by dsimp only; omega) (fun _ => by kernel_rfl)).to ?_
     rw [drop_cons hx, drop_cons hy, cmps_cons]
     simp_all
    ·refine Evx.call (number_ev _ _) ?_
     (conv=>arg 1;ext i;whnf)
     refine Evx.call (fin (by omega)) ?_
     (conv=>arg 1;ext i;whnf)
     exact Evx.pure rfl
   ·refine Evx.call (number_ev _ _) ?_
    (conv=>arg 1;ext i;whnf)
    refine Evx.call (fin (by omega)) ?_
    (conv=>arg 1;ext i;whnf)
    exact Evx.pure rfl
  ·refine Evx.call (number_ev _ _) ?_
   (conv=>arg 1;ext i;whnf)
   refine Evx.call (fin (by omega)) ?_
   (conv=>arg 1;ext i;whnf)
   exact Evx.pure rfl
theorem rsame_ev (t u : Fm) (ht : t.ok) (hu : u.ok) : Ev pr 20 [t.d, u.d] (.ret [.d (.bool (decide (t.cmp u = 0)))]) := by
 apply Ev.enter; intro k; (conv=>arg 1;ext i;whnf)
 refine Evx.call (rcmp_ev t u ht hu) ?_
 (conv=>arg 1;ext i;whnf)
 refine Evx.pure ?_
 refine bool_out ?_
 simp [hold_eq]
end Go.Proofs.YtehkgiofchmpaaaDoor
namespace Go.Proofs.YtehkgiofchmpaaaDoor
open Go Go.Abs Go.Abs.Asks
set_option linter.unusedVariables false
set_option linter.unusedSimpArgs false
set_option linter.unusedSectionVars false
variable [Asks]
end Go.Proofs.YtehkgiofchmpaaaDoor
namespace Go.Proofs.YtehkgiofchmpaaaDoor
open Go Go.Abs Go.Abs.Asks
set_option linter.unusedVariables false
set_option linter.unusedSimpArgs false
set_option linter.unusedSectionVars false
variable [Asks]
end Go.Proofs.YtehkgiofchmpaaaDoor
namespace Go.Proofs.YtehkgiofchmpaaaDoor
open Go Go.Abs Go.Abs.Asks
set_option linter.unusedVariables false
set_option linter.unusedSimpArgs false
set_option linter.unusedSectionVars false
variable [Asks]
theorem same_self_ev (t : Fm) (ht : t.ok) : Ev pr 20 [t.d, t.d] (.ret [.d (.bool true)]) := by
 have := rsame_ev t t ht ht
 rwa [cmp_self] at this
end Go.Proofs.YtehkgiofchmpaaaDoor
namespace Go.Proofs.YtehkgiofchmpaaaDoor
open Go Go.Abs Go.Abs.Asks
set_option linter.unusedVariables false
set_option linter.unusedSimpArgs false
set_option linter.unusedSectionVars false
variable [Asks]
theorem rmAll (F : Nat) : RmT F := by
 induction F using Nat.strongRecOn with
 | _ F ih => exact rfmE F ih
theorem rparse_ev (s : ByteArray) (hs : s.size < 2 ^ 30) : Ev pr 21 [.str s] (.ret [.d (parseS s.data.toList).1.d, .d (.int .i64 (parseS s.data.toList).2.1), .d (.int .i64 (parseS s.data.toList).2.2)]) := by
 have hsz : s.data.toList.length = s.size := (by simp)
 apply Ev.enter; intro c; (conv=>arg 1;ext i;whnf)
 refine Evx.cq ([.ptr 1 9 0]) (qB s 0 0 false) 1 ?_
 refine rmAll (4 * s.data.toList.length + 4) s hs 0 (Nat.zero_le _) 0 (by omega) (by omega) (by omega) _ _ _ (fun v n hf => ?_) (fun v n h => ?_)
 ·rw [List.drop_zero] at hf
  unfold parseS
  rw [hf]
  dsimp only
  rw [hsz, Nat.zero_add]
  have hb := ((fm_len _).1 _ _).2 v n hf
  have hl := ((fm_len (4 * s.data.toList.length + 4)).1 0 s.data.toList).1
  rw [hf] at hl
  have hl : n ≤ s.data.toList.length := hl
  have hok : v.ok := Fm.ok_of (by omega)
  (conv=>arg 1;ext i;whnf)
  (refine Evx.bool (fun h => ?_) (fun h => ?_) <;> (try simp only [bbs] at h) <;> (first | (exfalso; omega) | exact absurd trivial h | (conv=>arg 1;ext i;whnf)))
  ·rw [if_pos (by omega)]
   (conv=>arg 1;ext i;whnf)
   refine Evx.two (Out.same_self (by rfl)) ?_ ?_
   ·(conv=>arg 1;ext i;whnf)
    first | exact Evx.of_eq (G := fun _ => some _) (Evx.pure rfl) (fun i => rfl) | (rw [Nat.zero_add]; exact Evx.of_eq (G := fun _ => some _) (Evx.pure rfl) (fun i => rfl))
   ·(conv=>arg 1;ext i;whnf)
    first | exact Evx.of_eq (G := fun _ => some _) (Evx.pure rfl) (fun i => rfl) | (rw [Nat.zero_add]; exact Evx.of_eq (G := fun _ => some _) (Evx.pure rfl) (fun i => rfl))
  ·rw [if_neg (by omega)]
   refine Evx.call (rSize_ev v hok) ?_
   (conv=>arg 1;ext i;whnf)
   (refine Evx.bool (fun h => ?_) (fun h => ?_) <;> (try simp only [bbs] at h) <;> (first | (exfalso; omega) | exact absurd trivial h | (conv=>arg 1;ext i;whnf)))
   ·rw [if_neg (by omega)]
    first | exact Evx.of_eq (G := fun _ => some _) (Evx.pure rfl) (fun i => rfl) | (rw [Nat.zero_add]; exact Evx.of_eq (G := fun _ => some _) (Evx.pure rfl) (fun i => rfl))
   ·refine Evx.call (rDepth_ev v hok) ?_
    (conv=>arg 1;ext i;whnf)
    (refine Evx.bool (fun h => ?_) (fun h => ?_) <;> (try simp only [bbs] at h) <;> (first | (exfalso; omega) | exact absurd trivial h | (conv=>arg 1;ext i;whnf)))
    ·rw [if_neg (by omega)]
     first | exact Evx.of_eq (G := fun _ => some _) (Evx.pure rfl) (fun i => rfl) | (rw [Nat.zero_add]; exact Evx.of_eq (G := fun _ => some _) (Evx.pure rfl) (fun i => rfl))
    ·rw [if_pos (by omega)]
     first | exact Evx.of_eq (G := fun _ => some _) (Evx.pure rfl) (fun i => rfl) | (rw [Nat.zero_add]; exact Evx.of_eq (G := fun _ => some _) (Evx.pure rfl) (fun i => rfl))
 ·rw [List.drop_zero] at h
  unfold parseS
  rw [h, Nat.zero_add]
  dsimp only
  (conv=>arg 1;ext i;whnf)
  refine Evx.two (Out.same_self (by rfl)) ?_ ?_
  ·(conv=>arg 1;ext i;whnf)
   first | exact Evx.of_eq (G := fun _ => some _) (Evx.pure rfl) (fun i => rfl) | (rw [Nat.zero_add]; exact Evx.of_eq (G := fun _ => some _) (Evx.pure rfl) (fun i => rfl))
  ·(conv=>arg 1;ext i;whnf)
   first | exact Evx.of_eq (G := fun _ => some _) (Evx.pure rfl) (fun i => rfl) | (rw [Nat.zero_add]; exact Evx.of_eq (G := fun _ => some _) (Evx.pure rfl) (fun i => rfl))
theorem parsesLaw_ev (s : ByteArray) (hs : s.size < 2 ^ 30) : Ev pr 5 [.str s] (.ret [.d (.bool true)]) := by
 have hsz : s.data.toList.length = s.size := (by simp)
 have hok : (parseS s.data.toList).1.ok := by
  unfold parseS
  split
  ·exact Fm.ok_of (show zeroFm.bulk < 2 ^ 30 by decide)
  ·rename_i v n hf
   have hb := ((fm_len _).1 _ _).2 v n hf
   have hl := ((fm_len (4 * s.data.toList.length + 4)).1 0 s.data.toList).1
   rw [hf] at hl
   have hl : n ≤ s.data.toList.length := hl
   split
   ·exact Fm.ok_of (show zeroFm.bulk < 2 ^ 30 by decide)
   ·split
    ·exact Fm.ok_of (show v.bulk < 2 ^ 30 by omega)
    ·exact Fm.ok_of (show zeroFm.bulk < 2 ^ 30 by decide)
 apply Ev.enter; intro c; (conv=>arg 1;ext i;whnf)
 refine Evx.call awake22_ev ?_
 (conv=>arg 1;ext i;whnf)
 (refine Evx.bool (fun h => ?_) (fun h => ?_) <;> (try simp only [bbs] at h) <;> (first | (exfalso; omega) | exact absurd trivial h | (conv=>arg 1;ext i;whnf)))
 ·exact Evx.pure rfl
 refine Evx.call (parse_ev s hs) ?_
 (conv=>arg 1;ext i;whnf)
 refine Evx.call (rparse_ev s hs) ?_
 (conv=>arg 1;ext i;whnf)
 (refine Evx.bool (fun h => ?_) (fun h => ?_) <;> (try simp only [bbs] at h) <;> (first | (exfalso; omega) | exact absurd trivial h | (conv=>arg 1;ext i;whnf)))
 (refine Evx.bool (fun h => ?_) (fun h => ?_) <;> (try simp only [bbs] at h) <;> (first | (exfalso; omega) | exact absurd trivial h | (conv=>arg 1;ext i;whnf)))
 refine Evx.call (same_self_ev _ hok) ?_
 (conv=>arg 1;ext i;whnf)
 exact Evx.pure rfl
end Go.Proofs.YtehkgiofchmpaaaDoor
