/- Calls that end, by fuel that is large enough: the rules by which a function is walked on symbolic data. -/
import Derived.Test.YtehkgiofchmpaaaDoorAbsQ
namespace Go.Abs
open Go Asks
set_option linter.unusedVariables false
set_option linter.unusedSimpArgs false
set_option linter.unusedSectionVars false

mutual
  /-- No function values but of Go functions. -/
  def D.firm : D → Bool
    | .iface _ x => D.firm x
    | .sl _ es => D.firmss es
    | .full _ es => D.firmss es
    | .fn (.func _) cs => D.firms cs
    | .fn _ _ => false
    | .at cs => D.firms cs
    | .agg cs => D.firms cs
    | _ => true
  def D.firms : List D → Bool
    | [] => true
    | x :: xs => D.firm x && D.firms xs
  def D.firmss : List (List D) → Bool
    | [] => true
    | x :: xs => D.firms x && D.firmss xs
end
mutual
  theorem D.same_self : ∀ x : D, D.firm x = true → D.same x x = true
    | .bool _, _ | .int _ _, _ | .str _, _ | .nilp, _ | .nilf, _ | .nili, _ | .nilm, _ | .nils, _ | .emp _, _ => by simp [D.same]
    | .iface t x, h => by simp only [D.firm] at h; simp [D.same, D.same_self x h]
    | .sl z es, h => by simp only [D.firm] at h; simp [D.same, D.samess_self es h]
    | .full z es, h => by simp only [D.firm] at h; simp [D.same, D.samess_self es h]
    | .fn (.func f) cs, h => by simp only [D.firm] at h; simp [D.same, D.sames_self cs h]
    | .at cs, h => by simp only [D.firm] at h; simp [D.same, D.sames_self cs h]
    | .agg cs, h => by simp only [D.firm] at h; simp [D.same, D.sames_self cs h]
  theorem D.sames_self : ∀ x : List D, D.firms x = true → D.sames x x = true
    | [], _ => rfl
    | x :: xs, h => by simp only [D.firms, Bool.and_eq_true] at h; simp [D.sames, D.same_self x h.1, D.sames_self xs h.2]
  theorem D.samess_self : ∀ x : List (List D), D.firmss x = true → D.samess x x = true
    | [], _ => rfl
    | x :: xs, h => by simp only [D.firmss, Bool.and_eq_true] at h; simp [D.samess, D.sames_self x h.1, D.samess_self xs h.2]
end

def AV.firm : AV → Bool
  | .d x => D.firm x
  | .own _ _ es => D.firmss es
  | _ => false
theorem AV.same_self : ∀ a : AV, AV.firm a = true → AV.same a a = true
  | .d x, h => D.same_self x h
  | .own i z es, h => by simp [AV.same, D.samess_self es h]
theorem AV.sames_self : ∀ as : List AV, as.all AV.firm = true → AV.sames as as = true
  | [], _ => rfl
  | a :: as, h => by
    simp only [List.all_cons, Bool.and_eq_true] at h
    simp [AV.sames, AV.same_self a h.1, AV.sames_self as h.2]
theorem Out.same_self {rs : List AV} (h : rs.all AV.firm = true) : Same.same (Out.ret rs) (Out.ret rs) = true := AV.sames_self rs h

/-- From some fuel on, this is what comes out. -/
def Evx {R : Type} (F : Nat → Option R) (r : R) : Prop := ∃ N, ∀ i, N ≤ i → F i = some r

/-- A call on data by itself ends so. -/
def Ev [Asks] (q : Nat → Pr) (f : FuncId) (ds : List D) (o : Out) : Prop := ∀ c, Evx (fun i => runQ (q i) (i - c) Out (.fn (.func f)) (ds.map .d) G0 purify) o

section
variable [Asks] {R : Type} {q : Nat → Pr}

theorem Evx.pure {v r : R} (h : v = r) : Evx (fun _ => some v) r := ⟨0, fun _ _ => by rw [h]⟩

theorem Evx.to {F : Nat → Option R} {r r' : R} (h : Evx F r') (e : r' = r) : Evx F r := e ▸ h

theorem Evx.of_eq {F G : Nat → Option R} {r : R} (h : Evx G r) (e : ∀ i, F i = G i) : Evx F r := by
  obtain ⟨N, h⟩ := h
  exact ⟨N, fun i hi => by rw [e]; exact h i hi⟩

theorem Evx.ask {X : Nat → Option Out} {o : Out} {F : Nat → Out → Option R} {r : R} (h : Evx X o) (h2 : Evx (fun i => F i o) r) : Evx (fun i => askC (X i) (F i)) r := by
  obtain ⟨N, h⟩ := h
  obtain ⟨M, h2⟩ := h2
  refine ⟨N + M, fun i hi => ?_⟩
  dsimp only
  rw [askC_eq, h i (by omega)]
  exact h2 i (by omega)

/-- A call whose end is known. -/
theorem Evx.call {f : FuncId} {ds : List D} {o : Out} {c : Nat} {F : Nat → Out → Option R} {r : R} (h : Ev q f ds o) (h2 : Evx (fun i => F i o) r) : Evx (fun i => askC (runQ (q i) (i - c) Out (.fn (.func f)) (ds.map .d) G0 purify) (F i)) r :=
  Evx.ask (h c) h2

/-- A call by a contract. -/
theorem Evx.callK {x : Option Out} {o : Out} {F : Nat → Out → Option R} {r : R} (h : x = some o) (h2 : Evx (fun i => F i o) r) : Evx (fun i => askC x (F i)) r :=
  Evx.ask ⟨0, fun _ _ => h⟩ h2

theorem Evx.bool {c : Bool} {F G : Nat → Option R} {r : R} (h1 : c = true → Evx F r) (h2 : c = false → Evx G r) : Evx (fun i => match c with
    | true => F i
    | false => G i) r := by
  cases c
  · exact h2 rfl
  · exact h1 rfl

theorem Evx.int {n n' : Int} {F : Nat → Int → Option R} {r : R} (h : n = n') (h2 : Evx (fun i => F i n') r) : Evx (fun i => askI n (F i)) r := by
  subst h
  simp only [askI_eq]
  exact h2

theorem Evx.idx {es : List (List D)} {n : Int} {m : Nat} {e : List D} {F : Nat → List D → Option R} {r : R} (hn : n = m) (he : es[m]? = some e) (h2 : Evx (fun i => F i e) r) : Evx (fun i => askIdx es n (F i)) r := by
  subst hn
  simpa [askIdx_eq, he] using h2

theorem Evx.chr {s : ByteArray} {n : Int} {m : Nat} {e : UInt8} {F : Nat → UInt8 → Option R} {r : R} (hn : n = m) (he : s[m]? = some e) (h2 : Evx (fun i => F i e) r) : Evx (fun i => askChr s n (F i)) r := by
  subst hn
  simpa [askChr_eq, he] using h2

theorem Evx.must {c : Bool} {F : Nat → Option R} {r : R} (h : c = true) (h2 : Evx F r) : Evx (fun i => askT c (F i)) r := by
  subst h
  simp only [askT_eq]
  exact h2

/-- The bound of an append. -/
theorem Evx.appd {n m : Nat} {F : Nat → Option R} {r : R} (e : n = m) (h : m ≤ 1099511627776) (h2 : Evx F r) : Evx (fun i => askT (Nat.ble n most) (F i)) r :=
  Evx.must (by subst e; exact Nat.ble_eq_true_of_le h) h2

/-- The bound of an append that leaves a raw row. -/
theorem Evx.appR {n m : Nat} {c : Bool} {F : Nat → Option R} {r : R} (e : n = m) (h : m ≤ 1099511627776) (hc : c = true) (h2 : Evx F r) : Evx (fun i => askT (Nat.ble n most && c) (F i)) r :=
  Evx.must (by subst e; have e1 : Nat.ble n most = true := Nat.ble_eq_true_of_le h; rw [e1, hc]; rfl) h2

theorem Evx.mustP {c : Prop} {dc : Decidable c} {F : Nat → Option R} {r : R} (h : c) (h2 : Evx F r) : Evx (fun i => @askP _ R c dc (F i)) r := by
  simp only [askP_eq, if_pos h]
  exact h2

/-- In two orders. -/
theorem Evx.two [Same R] {F G : Nat → Option R} {r : R} (hr : Same.same r r = true) (h1 : Evx F r) (h2 : Evx G r) : Evx (fun i => askB2 (F i) (G i)) r := by
  obtain ⟨N, h1⟩ := h1
  obtain ⟨M, h2⟩ := h2
  refine ⟨N + M, fun i hi => ?_⟩
  dsimp only
  rw [askB2_eq, h1 i (by omega), h2 i (by omega)]
  unfold both
  dsimp only
  rw [hr]
  rfl

/-- A call entered. -/
theorem Evx.enter [Same R] {c : Nat} {cal : Cal} {args : Nat → List AV} {g : Nat → G} {k : Nat → Out → G → Option R} {r : R} (h : Evx (fun i => runQ (q i) (i - (c + 1) + 1) R cal (args i) (g i) (k i)) r) : Evx (fun i => runQ (q i) (i - c) R cal (args i) (g i) (k i)) r := by
  obtain ⟨N, h⟩ := h
  refine ⟨N + c + 1, fun i hi => ?_⟩
  have := h i (by omega)
  dsimp only at this ⊢
  rwa [show i - (c + 1) + 1 = i - c by omega] at this

/-- Where a call's end is asked: one frame is entered. -/
theorem Ev.enter {f : FuncId} {ds : List D} {o : Out} (h : ∀ c, Evx (fun i => runQ (q i) (i - (c + 1) + 1) Out (.fn (.func f)) (ds.map .d) G0 purify) o) : Ev q f ds o := fun c => (h c).enter

/-- A call that is reckoned out. -/
theorem Ev.of_run {f : FuncId} {ds : List D} {o : Out} (N : Nat) (h : ∀ n k, run (q (k + N)) (n + N) Out (.fn (.func f)) (ds.map .d) G0 purify = some o) : Ev q f ds o := by
  intro c
  refine ⟨c + N, fun i hi => ?_⟩
  have := h (i - c - N) (i - N)
  rw [show i - N + N = i by omega, show i - c - N + N = i - c by omega] at this
  dsimp only
  rw [runQ_eq]
  exact this
end

def lookZ {β γ : Type} : List (Nat × β) → List (Option γ) → Nat → Option γ
  | p :: kt, v :: tv, t => match Nat.beq t p.1 with
    | true => v
    | false => lookZ kt tv t
  | _, _, _ => none

/-- The state at a loop's head: the values kept, in the hint's order. -/
def mkHead (h : Hint) (id : Nat) (tv : List (Option AV)) (bv : List (Option Box)) (bx0 : Nat → Nat → Option Box) (dp : Nat) (lp : List LoopRec) : St := match h.loops id with
  | some (kt, kb) => ⟨lookZ kt tv, fun t => kt.any fun p => Nat.beq p.1 t && p.2.isSome, ⟨fun d t => match Nat.beq d dp with
      | true => lookZ kb bv t
      | false => bx0 d t, dp, lp⟩⟩
  | none => ⟨fun _ => none, fun _ => false, ⟨bx0, dp, lp⟩⟩

def headVal (dp : Nat) (tm : Nat → Option AV) (p : Nat × Option Nat) : Option AV := match p.2 with
  | some _ => match tm p.1 with
    | some a => some (keepOwn dp p.1 a)
    | none => none
  | none => match tm p.1 with
    | some a => some (demAll a)
    | none => none

/-- What a loop's head finds. -/
def headAll (h : Hint) (id : Nat) (s : St) : Bool × List (Option AV) × List (Option Box) × Nat × List LoopRec := match h.loops id with
  | some (kt, kb) => match canonBox kb (canonTm kt s) with
    | ⟨tm, fr, ⟨bx, dp, lp⟩⟩ => (keptTm tm dp (kb.map (·.1)) kt && keptBx bx dp (kb.map (·.1)) kb, kt.map (headVal dp tm), kb.map (fun p => bx dp p.1), dp, lp)
  | none => (false, [], [], 0, [])

theorem lookZ_map {β γ : Type} (f : Nat × β → Option γ) : ∀ (kt : List (Nat × β)) (t : Nat), lookZ kt (kt.map f) t = look (kt.map fun p => (p.1, f p)) t
  | [], t => rfl
  | p :: kt, t => by
    simp only [List.map, lookZ, look]
    rw [lookZ_map f kt]
    cases Nat.beq t p.1 <;> rfl

theorem headAll_head' {h : Hint} {id : Nat} {s : St} {tv : List (Option AV)} {bv : List (Option Box)} {dp : Nat} {lp : List LoopRec} (e : headAll h id s = (true, tv, bv, dp, lp)) :
    ∃ bx0, headSt h id s = some (mkHead h id tv bv bx0 dp lp) ∧ (canonBox ((h.loops id).getD ([], [])).2 (canonTm ((h.loops id).getD ([], [])).1 s)).g.bx = bx0 := by
  unfold headAll at e
  cases hl : h.loops id with
  | none => rw [hl] at e; cases e
  | some p =>
    obtain ⟨kt, kb⟩ := p
    rw [hl] at e
    dsimp only at e
    obtain ⟨tm, fr, ⟨bx, dp', lp'⟩, hs⟩ : ∃ tm fr, ∃ g : G, canonBox kb (canonTm kt s) = ⟨tm, fr, g⟩ := ⟨_, _, _, rfl⟩
    rw [hs] at e
    simp only [Prod.mk.injEq] at e
    obtain ⟨e1, rfl, rfl, rfl, rfl⟩ := e
    refine ⟨bx, ?_, ?_⟩
    · unfold headSt mkHead
      rw [hl]
      dsimp only
      rw [hs]
      dsimp only
      rw [if_pos e1]
      congr 1
      congr 1
      · funext t
        rw [lookZ_map]
        rfl
      · congr 1
        funext d t
        cases hd : Nat.beq d dp' with
        | true => simp only [if_true]; rw [lookZ_map]
        | false => simp only [Bool.false_eq_true, if_false]
    · show (canonBox kb (canonTm kt s)).g.bx = bx
      rw [hs]

theorem headAll_head {h : Hint} {id : Nat} {s : St} {tv : List (Option AV)} {bv : List (Option Box)} {dp : Nat} {lp : List LoopRec} (e : headAll h id s = (true, tv, bv, dp, lp)) :
    ∃ bx0, headSt h id s = some (mkHead h id tv bv bx0 dp lp) := by
  unfold headAll at e
  cases hl : h.loops id with
  | none => rw [hl] at e; cases e
  | some p =>
    obtain ⟨kt, kb⟩ := p
    rw [hl] at e
    dsimp only at e
    obtain ⟨tm, fr, ⟨bx, dp', lp'⟩, hs⟩ : ∃ tm fr, ∃ g : G, canonBox kb (canonTm kt s) = ⟨tm, fr, g⟩ := ⟨_, _, _, rfl⟩
    rw [hs] at e
    simp only [Prod.mk.injEq] at e
    obtain ⟨e1, rfl, rfl, rfl, rfl⟩ := e
    refine ⟨bx, ?_⟩
    unfold headSt mkHead
    rw [hl]
    dsimp only
    rw [hs]
    dsimp only
    rw [if_pos e1]
    congr 1
    congr 1
    · funext t
      rw [lookZ_map]
      rfl
    · congr 1
      funext d t
      cases hd : Nat.beq d dp' with
      | true => simp only [if_true]; rw [lookZ_map]
      | false => simp only [Bool.false_eq_true, if_false]

section
variable [Asks] {R : Type}
/-- Loops: by a measure, the state at the head told by what it depends on. L is the loop, gone on with. -/
theorem Evx.loop {α : Type} (h : Hint) (id : Nat) (tv : α → List (Option AV)) (bv : α → List (Option Box)) (dp : Nat) (lp : List LoopRec) (μ : α → Nat) (r : α → R) {B : Nat → St → (Ex → St → Option R) → Option R} {K : Nat → Ex → St → Option R}
    (step : ∀ a (bx0 : Nat → Nat → Nat → Option Box) (L : Nat → St → Option R), (∀ a' (s'' : Nat → St), μ a' < μ a → (∀ i, headAll h id (s'' i) = (true, tv a', bv a', dp, lp)) → Evx (fun i => L i (s'' i)) (r a')) →
      Evx (fun i => B i (mkHead h id (tv a) (bv a) (bx0 i) dp lp) fun e s'' => match e with
        | .normal => L i s''
        | e => K i e s'') (r a))
    (a : α) {hh : Nat → Hint} {idd : Nat → Nat} {fu : Nat → Nat} {s : Nat → St} (e1 : ∀ i, hh i = h) (e2 : ∀ i, idd i = id) (e3 : ∀ i, fu i = i) (hs : ∀ i, headAll h id (s i) = (true, tv a, bv a, dp, lp)) : Evx (fun i => loopN (hh i) (idd i) (B i) (fu i) (s i) (K i)) (r a) := by
  have key : ∀ n a, μ a < n → ∀ c (s : Nat → St), (∀ i, headAll h id (s i) = (true, tv a, bv a, dp, lp)) → Evx (fun i => loopN h id (B i) (i - c) (s i) (K i)) (r a) := by
    intro n
    induction n with
    | zero => intro a ha; exact absurd ha (Nat.not_lt_zero _)
    | succ n ih =>
      intro a ha c s hs
      have hx : ∀ i, ∃ bx0, headSt h id (s i) = some (mkHead h id (tv a) (bv a) bx0 dp lp) := fun i => headAll_head (hs i)
      have hb := fun i => Classical.choose_spec (hx i)
      have h1 := step a (fun i => Classical.choose (hx i)) (fun i s'' => loopN h id (B i) (i - (c + 1)) s'' (K i)) (fun a' s'' hlt hs'' => ih a' (by omega) (c + 1) s'' hs'')
      obtain ⟨N, h1⟩ := h1
      refine ⟨N + c + 1, fun i hi => ?_⟩
      have h2 := h1 i (by omega)
      dsimp only at h2 ⊢
      rw [show i - c = (i - (c + 1)) + 1 by omega]
      rw [loopN, hb i]
      exact h2
  refine (key (μ a + 1) a (Nat.lt_succ_self _) 0 s hs).of_eq fun i => ?_
  rw [e1, e2, e3]
  rfl
end

/-- The state before a step of the loop: equal when it reads so. -/
theorem hold_true [Asks] {c : Bool} : hold c = true ↔ c = true := by rw [hold_eq]
theorem hold_false [Asks] {c : Bool} : hold c = false ↔ c = false := by rw [hold_eq]
theorem toList_loop (a : ByteArray) : ∀ i r, ByteArray.toList.loop a i r = r.reverse ++ a.data.toList.drop i := by
  intro i r
  induction h : a.size - i using Nat.strongRecOn generalizing i r with
  | _ n ih =>
    rw [ByteArray.toList.loop]
    split
    · rename_i hlt
      rw [ih (a.size - (i + 1)) (by omega) (i + 1) _ rfl]
      have hs : i < a.data.toList.length := by simpa using hlt
      have : a.data.toList.drop i = a.get! i :: a.data.toList.drop (i + 1) := by
        rw [List.drop_eq_getElem_cons hs]
        congr 1
        have hs' : i < a.data.size := hlt
        simp only [ByteArray.get!, Array.getElem_toList]
        exact (getElem!_pos a.data i hs').symm
      rw [this]
      simp
    · rename_i hge
      have : a.data.toList.drop i = [] := List.drop_eq_nil_of_le (by simpa using Nat.le_of_not_lt hge)
      simp [this]
theorem toList_eq (a : ByteArray) : a.toList = a.data.toList := by
  rw [ByteArray.toList, toList_loop]; simp
theorem seq_iff [Asks] {a b : ByteArray} : seq a b = true ↔ a = b := by
  rw [seq_eq, toList_eq, toList_eq]
  constructor
  · intro h
    have h := eq_of_beq h
    cases a; cases b
    simpa using h
  · rintro rfl; exact beq_self_eq_true _
theorem seq_ne [Asks] {a b : ByteArray} : seq a b = false ↔ a ≠ b := by
  rw [← Bool.not_eq_true, seq_iff]
end Go.Abs
