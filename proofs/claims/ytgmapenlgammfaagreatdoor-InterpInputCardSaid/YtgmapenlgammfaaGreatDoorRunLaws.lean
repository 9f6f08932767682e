/- Laws of the execution in plain Lean: more fuel, less fuel, other values to receive, one step more. -/
import Derived.Test.YtgmapenlgammfaaGreatDoorRun
set_option linter.all false
namespace Go.Proofs.YtgmapenlgammfaaGreatDoor
open Go

theorem unaryI_err (op x : Int) : (unaryI op x).2 ≠ 13 := by
  unfold unaryI
  repeat' split
  all_goals simp
theorem applyI_err (op x y : Int) : (applyI op x y).2 ≠ 13 := by
  unfold applyI
  repeat' split
  all_goals simp
theorem evalE_err (ρ : ByteArray → Option Int) (α : ByteArray → Option (List Int)) : ∀ (n : Node) e, evalE ρ α n = .error e → e ≠ 13 := by
  have op : ∀ k n s vs, (∀ e, .error e ∈ vs → e ≠ 13) → ∀ e, evalOp ρ α k n s vs = .error e → e ≠ 13 := by
    intro k n s vs hv
    have hg : ∀ i e, vs.getD i (.error 0) = .error e → e ≠ 13 := by
      intro i e h
      rw [List.getD_eq_getElem?_getD] at h
      cases e2 : vs[i]? with
      | none => rw [e2] at h; injection h with h; subst h; decide
      | some u => rw [e2] at h; simp at h; subst h; exact hv e (List.mem_of_getElem? e2)
    intro e h
    unfold evalOp at h
    split at h
    · cases h
    split at h
    · split at h
      · injection h with h; subst h; decide
      · cases h
    split at h
    · split at h
      · injection h with h; subst h; decide
      · split at h
        · rename_i e2; injection h with h; subst h; exact hg 0 _ e2
        · split at h
          · cases h
          · injection h with h; subst h; decide
    split at h
    · split at h
      · rename_i e2; injection h with h; subst h; exact hg 0 _ e2
      · split at h
        · cases h
        · injection h with h; subst h; exact unaryI_err _ _
    · split at h
      · rename_i e2; injection h with h; subst h; exact hg 0 _ e2
      · split at h
        · rename_i e2; injection h with h; subst h; exact hg 1 _ e2
        · split at h
          · cases h
          · injection h with h; subst h; exact applyI_err _ _ _
  intro n
  induction n using Node.rec (motive_2 := fun l => ∀ e, .error e ∈ evalL ρ α l → e ≠ 13) with
  | mk k num s kids ih => intro e h; rw [evalE] at h; exact op k num s _ ih e h
  | nil => rename_i h; simp [evalL] at h
  | cons n r h1 h2 =>
    rename_i e h
    rw [evalL] at h
    rcases List.mem_cons.1 h with h | h
    · exact h1 e h.symm
    · exact h2 e h
theorem evJ_err {E : JE} {s : JS} {n : Node} {e : Int} (h : evJ E s n = .error e) : e ≠ 13 := evalE_err _ _ n e h

/-! ### fuel -/
def withFuel (E : JE) (g : Int) : JE := { E with fuel := g }
/-- Steps, values read, values sent only grow. -/
structure Grow (s t : JS) : Prop where
  steps : s.steps ≤ t.steps
  read : s.read ≤ t.read
  out : s.out <+: t.out
theorem Grow.refl (s : JS) : Grow s s := ⟨Nat.le_refl _, Nat.le_refl _, List.prefix_rfl⟩
theorem Grow.trans {a b c : JS} (h : Grow a b) (k : Grow b c) : Grow a c := ⟨Nat.le_trans h.steps k.steps, Nat.le_trans h.read k.read, h.out.trans k.out⟩
/-- What f gives at s, and with another amount of fuel. -/
structure FuelAt (f : JF) (E : JE) (s : JS) : Prop where
  grow : Grow s (f E s).1
  out13 : (f E s).2 = some 13 → E.fuel ≤ ((f E s).1.steps : Int)
  bound : (s.steps : Int) ≤ E.fuel → ((f E s).1.steps : Int) ≤ E.fuel
  enough : ∀ g : Int, (f E s).2 ≠ some 13 → ((f E s).1.steps : Int) ≤ g → f (withFuel E g) s = f E s
  less : ∀ g : Int, (f E s).2 ≠ some 13 → (s.steps : Int) ≤ g → g < ((f E s).1.steps : Int) → ∃ s', f (withFuel E g) s = (s', some 13) ∧ (s'.steps : Int) = g ∧ s'.read ≤ (f E s).1.read ∧ s'.out <+: (f E s).1.out
def FuelP (f : JF) : Prop := ∀ E s, FuelAt f E s
/-- A form that makes no step. -/
theorem FuelAt.flat {f : JF} {E : JE} {s : JS} (h1 : Grow s (f E s).1) (h2 : (f E s).1.steps = s.steps) (h3 : (f E s).2 ≠ some 13) (h4 : ∀ g, f (withFuel E g) s = f E s) : FuelAt f E s :=
  ⟨h1, fun h => absurd h h3, fun h => by rw [h2]; exact h, fun g _ _ => h4 g, fun g _ h5 h6 => by rw [h2] at h6; omega⟩
theorem FuelAt.bind {f g : JF} {E : JE} {s : JS} (hf : FuelAt f E s) (hg : ∀ t, FuelAt g E t) : FuelAt (fun E s => bindJ (f E s) (g E)) E s := by
  cases e : (f E s).2 with
  | some x =>
    have e1 : bindJ (f E s) (g E) = ((f E s).1, some x) := bindJ_some e
    refine ⟨?_, ?_, ?_, ?_, ?_⟩
    · simp only [e1]; exact hf.grow
    · simp only [e1]; intro h; exact hf.out13 (by rw [e]; exact h)
    · simp only [e1]; exact hf.bound
    · simp only [e1]
      intro k h1 h2
      have := hf.enough k (by rw [e]; exact h1) h2
      rw [this]
      exact bindJ_some e
    · simp only [e1]
      intro k h1 h2 h3
      obtain ⟨s', h4, h5⟩ := hf.less k (by rw [e]; exact h1) h2 h3
      exact ⟨s', by rw [h4]; rfl, h5⟩
  | none =>
    have e1 : bindJ (f E s) (g E) = g E (f E s).1 := bindJ_none e
    have hh := hg (f E s).1
    have hn : (f E s).2 ≠ some 13 := by rw [e]; simp
    refine ⟨?_, ?_, ?_, ?_, ?_⟩
    · simp only [e1]; exact hf.grow.trans hh.grow
    · simp only [e1]; exact hh.out13
    · simp only [e1]; exact fun h => hh.bound (hf.bound h)
    · simp only [e1]
      intro k h1 h2
      have h3 := hf.enough k hn (by have := hh.grow.steps; omega)
      rw [bindJ_none (by rw [h3]; exact e), h3]
      exact hh.enough k h1 h2
    · simp only [e1]
      intro k h1 h2 h3
      rcases Int.lt_or_le k ((f E s).1.steps : Int) with hlt | hge
      · obtain ⟨s', h4, h5, h6, h7⟩ := hf.less k hn h2 hlt
        exact ⟨s', by rw [h4]; rfl, h5, Nat.le_trans h6 hh.grow.read, h7.trans hh.grow.out⟩
      · have h4 := hf.enough k hn hge
        obtain ⟨s', h5, h6⟩ := hh.less k h1 hge h3
        exact ⟨s', by rw [bindJ_none (by rw [h4]; exact e), h4]; exact h5, h6⟩
theorem FuelAt.step (E : JE) (s : JS) : FuelAt stepJ E s := by
  by_cases h : (s.steps : Int) ≥ E.fuel
  · have e : stepJ E s = (s, some 13) := by unfold stepJ; rw [if_pos h]
    exact ⟨by rw [e]; exact .refl s, fun _ => by rw [e]; exact h, fun h => by rw [e]; exact h, fun g h1 => absurd (by rw [e]) h1, fun g h1 => absurd (by rw [e]) h1⟩
  · have e : stepJ E s = ({ s with steps := s.steps + 1 }, none) := by unfold stepJ; rw [if_neg h]
    refine ⟨by rw [e]; exact ⟨by simp, Nat.le_refl _, List.prefix_rfl⟩, fun h => (by rw [e] at h; cases h), fun h => by rw [e]; simp only; omega, ?_, ?_⟩
    · intro g _ h2
      rw [e] at h2 ⊢
      unfold stepJ
      rw [if_neg (by simp only [withFuel] at *; omega)]
    · intro g _ h2 h3
      rw [e] at h3
      refine ⟨s, ?_, by simp only at h3; omega, by rw [e]; exact Nat.le_refl _, by rw [e]; exact List.prefix_rfl⟩
      unfold stepJ
      rw [if_pos (by simp only [withFuel] at *; omega)]
theorem storeJ_flat {E : JE} {place : Node} {early : Bool} {g : JS → JS × Except Int Int} {s : JS} (hg : Grow s (g s).1 ∧ (g s).1.steps = s.steps) (he : ∀ e, (g s).2 = .error e → e ≠ 13) :
    Grow s (storeJ E place early g s).1 ∧ (storeJ E place early g s).1.steps = s.steps ∧ (storeJ E place early g s).2 ≠ some 13 := by
  generalize hgs : g s = r at *
  obtain ⟨s1, x⟩ := r
  obtain ⟨g1, g2⟩ := hg
  simp only at g1 g2 he
  have gv : ∀ nm v, Grow s (setVar s1 nm v) := fun nm v => g1.trans ⟨Nat.le_refl _, Nat.le_refl _, List.prefix_rfl⟩
  have gc : ∀ a i v, Grow s (setCell s1 a i v) := fun a i v => g1.trans ⟨Nat.le_refl _, Nat.le_refl _, List.prefix_rfl⟩
  unfold storeJ
  rw [hgs]
  have r0 : Grow s s ∧ s.steps = s.steps := ⟨.refl s, rfl⟩
  cases x with
  | error e =>
    have := he e rfl
    simp only
    repeat' split
    all_goals first
      | exact ⟨g1, g2, by simpa using this⟩
      | exact ⟨.refl s, rfl, by decide⟩
      | (rename_i h; exact ⟨.refl s, rfl, by simpa using evJ_err h⟩)
      | (rename_i h _; exact ⟨.refl s, rfl, by simpa using evJ_err h⟩)
      | simp_all
  | ok v =>
    simp only
    repeat' split
    all_goals first
      | exact ⟨gv _ _, g2, by simp⟩
      | exact ⟨gc _ _ _, g2, by simp⟩
      | exact ⟨g1, g2, by simp⟩
      | exact ⟨.refl s, rfl, by decide⟩
      | (rename_i h; exact ⟨.refl s, rfl, by simpa using evJ_err h⟩)
      | (rename_i h _; exact ⟨.refl s, rfl, by simpa using evJ_err h⟩)
      | simp_all
theorem fuelClosed : Closed FuelP where
  no := fun E s => .flat (.refl s) rfl (by simp) (fun _ => rfl)
  bind := fun f g hf hg E s => (hf E s).bind (hg E)
  step := FuelAt.step
  bound := fun E s => .flat (.refl s) rfl (by simp) (fun _ => rfl)
  var := fun nm v _ E s => .flat ⟨Nat.le_refl _, Nat.le_refl _, List.prefix_rfl⟩ rfl (by simp) (fun _ => rfl)
  del := fun nm E s => .flat ⟨Nat.le_refl _, Nat.le_refl _, List.prefix_rfl⟩ rfl (by simp) (fun _ => rfl)
  test := fun c f g hf hg E s => by
    have ee : ∀ k, evJ (withFuel E k) s c = evJ E s c := fun _ => rfl
    cases e : evJ E s c with
    | error x =>
      have e1 : ∀ k, ifJ (withFuel E k) c (f (withFuel E k)) (g (withFuel E k)) s = (s, some x) := fun k => by unfold ifJ; rw [ee, e]
      have e0 : ifJ E c (f E) (g E) s = (s, some x) := by unfold ifJ; rw [e]
      refine .flat ?_ ?_ ?_ ?_
      · simp only [e0]; exact .refl s
      · simp only [e0]
      · simp only [e0]; simpa using evJ_err e
      · intro k; simp only [e0]; exact e1 k
    | ok v =>
      by_cases hv : v = 0
      · have e1 : ∀ k, ifJ (withFuel E k) c (f (withFuel E k)) (g (withFuel E k)) s = g (withFuel E k) s := fun k => by unfold ifJ; rw [ee, e]; simp [hv]
        have e0 : ifJ E c (f E) (g E) s = g E s := by unfold ifJ; rw [e]; simp [hv]
        have h := hg E s
        exact ⟨by simp only [e0]; exact h.grow, by simp only [e0]; exact h.out13, by simp only [e0]; exact h.bound, by simp only [e0, e1]; exact h.enough, by simp only [e0, e1]; exact h.less⟩
      · have e1 : ∀ k, ifJ (withFuel E k) c (f (withFuel E k)) (g (withFuel E k)) s = f (withFuel E k) s := fun k => by unfold ifJ; rw [ee, e]; simp [hv]
        have e0 : ifJ E c (f E) (g E) s = f E s := by unfold ifJ; rw [e]; simp [hv]
        have h := hf E s
        exact ⟨by simp only [e0]; exact h.grow, by simp only [e0]; exact h.out13, by simp only [e0]; exact h.bound, by simp only [e0, e1]; exact h.enough, by simp only [e0, e1]; exact h.less⟩
  out := fun c port E s => FuelAt.bind (f := stepJ) (g := fun E => outJ E c port) (.step E s) (fun t => by
    cases e : evJ E t c with
    | error x =>
      have e1 : ∀ k, outJ (withFuel E k) c port t = (t, some x) := fun k => by unfold outJ; rw [show evJ (withFuel E k) t c = evJ E t c from rfl, e]
      have e0 : outJ E c port t = (t, some x) := by unfold outJ; rw [e]
      refine .flat ?_ ?_ ?_ ?_
      · simp only [e0]; exact .refl t
      · simp only [e0]
      · simp only [e0]; simpa using evJ_err e
      · intro k; simp only [e0]; exact e1 k
    | ok v =>
      have e1 : ∀ k, outJ (withFuel E k) c port t = ({ t with out := t.out ++ [(port, v)] }, none) := fun k => by unfold outJ; rw [show evJ (withFuel E k) t c = evJ E t c from rfl, e]
      have e0 : outJ E c port t = ({ t with out := t.out ++ [(port, v)] }, none) := by unfold outJ; rw [e]
      refine .flat ?_ ?_ ?_ ?_
      · simp only [e0]; exact ⟨Nat.le_refl _, Nat.le_refl _, List.prefix_append _ _⟩
      · simp only [e0]
      · simp only [e0]; simp
      · intro k; simp only [e0]; exact e1 k)
  assign := fun place c E s => FuelAt.bind (f := stepJ) (g := fun E => storeJ E place true (fun s => (s, evJ E s c))) (.step E s) (fun t => by
    obtain ⟨h1, h2, h3⟩ := storeJ_flat (E := E) (place := place) (early := true) (g := fun s => (s, evJ E s c)) (s := t) ⟨.refl t, rfl⟩ (fun e he => evJ_err he)
    exact .flat h1 h2 h3 (fun _ => rfl))
  inp := fun place E s => FuelAt.bind (f := stepJ) (g := fun E => storeJ E place false (recvJ E)) (.step E s) (fun t => by
    obtain ⟨h1, h2, h3⟩ := storeJ_flat (E := E) (place := place) (early := false) (g := recvJ E) (s := t) ⟨⟨Nat.le_refl _, Nat.le_succ _, List.prefix_rfl⟩, rfl⟩ (fun e he => by cases he)
    exact .flat h1 h2 h3 (fun _ => rfl))

/-! ### values to receive -/
def withInp (E : JE) (l : List Int) : JE := { E with inp := l }
def InpP (f : JF) : Prop := ∀ E s, s.read ≤ (f E s).1.read ∧ ∀ l, (∀ i, i < (f E s).1.read → E.inp.getD i 0 = l.getD i 0) → f (withInp E l) s = f E s
theorem InpP.bind_ {f g : JF} (hf : InpP f) (hg : InpP g) : InpP (fun E s => bindJ (f E s) (g E)) := fun E s => by
  obtain ⟨f1, f2⟩ := hf E s
  cases e : (f E s).2 with
  | some x =>
    have e1 : bindJ (f E s) (g E) = ((f E s).1, some x) := bindJ_some e
    refine ⟨by simp only [e1]; exact f1, ?_⟩
    intro l hl
    simp only [e1] at hl ⊢
    have := f2 l hl
    rw [this]
    exact bindJ_some e
  | none =>
    have e1 : bindJ (f E s) (g E) = g E (f E s).1 := bindJ_none e
    obtain ⟨g1, g2⟩ := hg E (f E s).1
    refine ⟨by simp only [e1]; omega, ?_⟩
    intro l hl
    simp only [e1] at hl ⊢
    have := f2 l (fun i hi => hl i (by omega))
    rw [this, bindJ_none e]
    exact g2 l hl
theorem storeJ_read {E : JE} {place : Node} {early : Bool} {g : JS → JS × Except Int Int} {s : JS} (hg : s.read ≤ (g s).1.read) : s.read ≤ (storeJ E place early g s).1.read := by
  generalize hgs : g s = r at *
  obtain ⟨s1, x⟩ := r
  simp only at hg
  unfold storeJ
  rw [hgs]
  cases x <;> simp only <;> (repeat' split) <;> first | exact hg | exact Nat.le_refl _
theorem inpClosed : Closed InpP where
  no := fun E s => ⟨Nat.le_refl _, fun _ _ => rfl⟩
  bind := fun f g hf hg => hf.bind_ hg
  step := fun E s => ⟨by unfold stepJ; split <;> exact Nat.le_refl _, fun _ _ => rfl⟩
  bound := fun E s => ⟨Nat.le_refl _, fun _ _ => rfl⟩
  var := fun nm v _ E s => ⟨Nat.le_refl _, fun _ _ => rfl⟩
  del := fun nm E s => ⟨Nat.le_refl _, fun _ _ => rfl⟩
  test := fun c f g hf hg E s => by
    have ee : ∀ l, evJ (withInp E l) s c = evJ E s c := fun _ => rfl
    cases e : evJ E s c with
    | error x =>
      have e0 : ifJ E c (f E) (g E) s = (s, some x) := by unfold ifJ; rw [e]
      refine ⟨by simp only [e0]; exact Nat.le_refl _, fun l _ => ?_⟩
      simp only [e0]
      unfold ifJ
      rw [ee, e]
    | ok v =>
      by_cases hv : v = 0
      · have e1 : ∀ l, ifJ (withInp E l) c (f (withInp E l)) (g (withInp E l)) s = g (withInp E l) s := fun k => by unfold ifJ; rw [ee, e]; simp [hv]
        have e0 : ifJ E c (f E) (g E) s = g E s := by unfold ifJ; rw [e]; simp [hv]
        simp only [e0, e1]
        exact hg E s
      · have e1 : ∀ l, ifJ (withInp E l) c (f (withInp E l)) (g (withInp E l)) s = f (withInp E l) s := fun k => by unfold ifJ; rw [ee, e]; simp [hv]
        have e0 : ifJ E c (f E) (g E) s = f E s := by unfold ifJ; rw [e]; simp [hv]
        simp only [e0, e1]
        exact hf E s
  out := fun c port => InpP.bind_ (f := stepJ) (g := fun E => outJ E c port) (fun E s => ⟨by unfold stepJ; split <;> exact Nat.le_refl _, fun _ _ => rfl⟩) (fun E s => ⟨by dsimp only; unfold outJ; split <;> exact Nat.le_refl _, fun _ _ => rfl⟩)
  assign := fun place c => InpP.bind_ (f := stepJ) (g := fun E => storeJ E place true (fun s => (s, evJ E s c))) (fun E s => ⟨by unfold stepJ; split <;> exact Nat.le_refl _, fun _ _ => rfl⟩) (fun E s => ⟨storeJ_read (Nat.le_refl _), fun _ _ => rfl⟩)
  inp := fun place => InpP.bind_ (f := stepJ) (g := fun E => storeJ E place false (recvJ E)) (fun E s => ⟨by unfold stepJ; split <;> exact Nat.le_refl _, fun _ _ => rfl⟩) (fun E s => by
    refine ⟨storeJ_read (Nat.le_succ _), fun l hl => ?_⟩
    have ee : ∀ c, evJ (withInp E l) s c = evJ E s c := fun _ => rfl
    unfold storeJ at hl ⊢
    simp only [ee, show (withInp E l).ix = E.ix from rfl, recvJ, Bool.false_eq_true, if_false] at hl ⊢
    have key : ∀ r : JR, (r.1.read = s.read + 1 → E.inp.getD s.read 0 = l.getD s.read 0) → True := fun _ _ => trivial
    split
    · rename_i h
      rw [if_pos h] at hl
      rw [show (withInp E l).inp = l from rfl, ← hl s.read (by simp [setVar])]
    · rename_i h
      rw [if_neg h] at hl
      cases e1 : E.ix place.name with
      | none => rfl
      | some a =>
        rw [e1] at hl
        simp only at hl ⊢
        cases e2 : evJ E s (kid place.kids 0) with
        | error _ => rfl
        | ok i =>
          rw [e2] at hl
          simp only at hl ⊢
          split
          · rename_i h3
            rw [if_pos h3] at hl
            rw [show (withInp E l).inp = l from rfl, ← hl s.read (by simp [setCell])]
          · rfl)

/-! ### one step more -/
def upS (s : JS) : JS := { s with steps := s.steps + 1 }
def ShP (f : JF) : Prop := ∀ E s, f (withFuel E (E.fuel + 1)) (upS s) = (upS (f E s).1, (f E s).2)
theorem stepJ_up (E : JE) (s : JS) : stepJ (withFuel E (E.fuel + 1)) (upS s) = (upS (stepJ E s).1, (stepJ E s).2) := by
  unfold stepJ
  by_cases h : (s.steps : Int) ≥ E.fuel
  · rw [if_pos h, if_pos (by simp only [withFuel, upS]; omega)]
  · rw [if_neg h, if_neg (by simp only [withFuel, upS]; omega)]
    rfl
theorem ShP.bind_ {f g : JF} (hf : ShP f) (hg : ShP g) : ShP (fun E s => bindJ (f E s) (g E)) := fun E s => by
  simp only [hf E s]
  cases e : (f E s).2 with
  | some x => rw [bindJ_some rfl, bindJ_some e]
  | none => rw [bindJ_none rfl, bindJ_none e]; exact hg E _
theorem evJ_up (E : JE) (s : JS) (c : Node) : evJ (withFuel E (E.fuel + 1)) (upS s) c = evJ E s c := rfl
theorem shClosed : Closed ShP where
  no := fun E s => rfl
  bind := fun f g hf hg => hf.bind_ hg
  step := stepJ_up
  bound := fun E s => rfl
  var := fun nm v _ E s => rfl
  del := fun nm E s => rfl
  test := fun c f g hf hg E s => by
    unfold ifJ
    simp only [evJ_up]
    cases e : evJ E s c with
    | error x => rfl
    | ok v =>
      simp only
      split
      · exact hg E s
      · exact hf E s
  out := fun c port => ShP.bind_ (f := stepJ) (g := fun E => outJ E c port) stepJ_up (fun E s => by
    unfold outJ
    simp only [evJ_up]
    cases e : evJ E s c <;> rfl)
  assign := fun place c => ShP.bind_ (f := stepJ) (g := fun E => storeJ E place true (fun s => (s, evJ E s c))) stepJ_up (fun E s => by
    unfold storeJ
    simp only [evJ_up, show (withFuel E (E.fuel + 1)).ix = E.ix from rfl, show (upS s).cells = s.cells from rfl, if_true]
    split
    · cases evJ E s c <;> rfl
    · cases E.ix place.name with
      | none => rfl
      | some a =>
        simp only
        cases evJ E s (kid place.kids 0) with
        | error _ => rfl
        | ok i =>
          simp only
          cases evJ E s c with
          | error _ => rfl
          | ok v =>
            simp only
            split <;> rfl)
  inp := fun place => ShP.bind_ (f := stepJ) (g := fun E => storeJ E place false (recvJ E)) stepJ_up (fun E s => by
    unfold storeJ
    simp only [evJ_up, show (withFuel E (E.fuel + 1)).ix = E.ix from rfl, show (upS s).cells = s.cells from rfl, Bool.false_eq_true, if_false, recvJ]
    split
    · rfl
    · cases E.ix place.name with
      | none => rfl
      | some a =>
        simp only
        cases evJ E s (kid place.kids 0) with
        | error _ => rfl
        | ok i =>
          simp only
          split <;> rfl)
end Go.Proofs.YtgmapenlgammfaaGreatDoor
