/- The package interp: the value of an expression, over maps and arrays of the base. -/
import Derived.Test.YtgmapenlgammfaaGreatDoorMem
set_option linter.all false
namespace Go.Proofs.YtgmapenlgammfaaGreatDoor
open Go

theorem array_spec (w0 : World) (rv ra : Nat) (α : ByteArray → Option Value) (hα : MapB w0 Value.string ra α) (name : ByteArray) :
    Spec Tryz.prog w0 100 #[.agg #[.map (some rv), .map (some ra)], .string name] [] (IsE (match α name with | none => .error (stopV 6) | some v => .ok v)) := by
  refine Spec.enter (args := [_, _]) Tryz.func100 rfl rfl rfl (fun F => ?_)
  refine kAutoB ?_
  (apply RL.boxR; exact kEv; exact rfl; intro b2)
  refine kAutoB ?_
  cases h : α name with
  | none =>
    apply RL.pur; (apply OpP.lookupNone; exact kEv; exact kEv; exact hα.has; exact h); exact rfl
    refine kAutoB ?_
    (apply RL.callE; exact kEv; exact inferInstance; exact kEvl; exact (fail_spec w0 6); exact rfl)
    · intro v hv
      cases hv
    · intro c hc
      simp at hc
      subst hc
      refine kAutoB ?_
      exact XJ.panics [] (by exact kGives) ⟨rfl, rfl⟩
  | some v =>
    apply RL.pur; (apply OpP.lookupSome; exact kEv; exact kEv; exact hα.has; exact h); exact rfl
    refine kAutoB ?_
    exact XJ.ret1 rfl rfl [] (by exact kGives) ⟨rfl, rfl⟩
/-- Whether i is an index of a list of n. -/
def idxB (i : Int) (n : Nat) : Bool := !decide (i < 0) && !decide (IntKind.i64.wrap i ≥ (n : Int))
theorem index_spec16 (w0 : World) (i : Int) (A : Option Addr) (n c : Nat) :
    Spec Tryz.prog w0 101 #[.int .i32 i, .slice A n c] [] (IsE (if idxB i n then .ok (.int .i64 (IntKind.i64.wrap i)) else .error (stopV 11))) := by
  refine Spec.enter (args := [_, _]) Tryz.func101 rfl rfl rfl (fun F => ?_)
  refine kAutoB ?_
  cases h1 : decide (i < 0)
  · refine kAutoB ?_
    cases h2 : decide (IntKind.i64.wrap i ≥ (n : Int))
    · refine kAutoB ?_
      exact XJ.ret1 rfl rfl [] (by exact kGives) ⟨by rw [idxB, h1, h2]; rfl, rfl⟩
    · refine kAutoB ?_
      (apply RL.callE; exact kEv; exact inferInstance; exact kEvl; exact (fail_spec w0 11); exact rfl)
      · intro v hv
        cases hv
      · intro c hc
        simp at hc
        subst hc
        refine kAutoB ?_
        exact XJ.panics [] (by exact kGives) ⟨by rw [idxB, h1, h2]; rfl, rfl⟩
  · refine kAutoB ?_
    (apply RL.callE; exact kEv; exact inferInstance; exact kEvl; exact (fail_spec w0 11); exact rfl)
    · intro v hv
      cases hv
    · intro c hc
      simp at hc
      subst hc
      refine kAutoB ?_
      exact XJ.panics [] (by exact kGives) ⟨by rw [idxB, h1]; rfl, rfl⟩
/-- The value of a node, from its children's; errors are numbers. -/
def evalOp (ρ : ByteArray → Option Int) (α : ByteArray → Option (List Int)) (k n : Int) (s : ByteArray) (vs : List (Except Int Int)) : Except Int Int :=
  if k = 1 then .ok (IntKind.i32.wrap n)
  else if k = 2 then (match ρ s with | none => .error 6 | some v => .ok v)
  else if k = 3 then (match α s with
    | none => .error 6
    | some l => match vs.getD 0 (.error 0) with
      | .error e => .error e
      | .ok i => if idxB i l.length then .ok (l.getD (IntKind.i64.wrap i).toNat 0) else .error 11)
  else if k = 4 ∨ k = 5 then (match vs.getD 0 (.error 0) with
    | .error e => .error e
    | .ok x => if (unaryI k x).2 = 0 then .ok (unaryI k x).1 else .error (unaryI k x).2)
  else match vs.getD 0 (.error 0) with
    | .error e => .error e
    | .ok x => match vs.getD 1 (.error 0) with
      | .error e => .error e
      | .ok y => if (applyI k x y).2 = 0 then .ok (applyI k x y).1 else .error (applyI k x y).2
mutual
def evalE (ρ : ByteArray → Option Int) (α : ByteArray → Option (List Int)) : Node → Except Int Int
  | .mk k n s kids => evalOp ρ α k n s (evalL ρ α kids)
def evalL (ρ : ByteArray → Option Int) (α : ByteArray → Option (List Int)) : List Node → List (Except Int Int)
  | [] => []
  | n :: r => evalE ρ α n :: evalL ρ α r
end
def I32 (x : Int) : Prop := -2147483648 ≤ x ∧ x ≤ 2147483647
/-- Variables and arrays as maps of the base. -/
structure EnvB (w : World) (rv ra : Nat) (ρ : ByteArray → Option Int) (α : ByteArray → Option (List Int)) : Prop where
  vars : MapB w Value.string rv (fun s => (ρ s).map intV)
  arrs : ∃ αv : ByteArray → Option Value, MapB w Value.string ra αv ∧ (∀ s, α s = none → αv s = none) ∧ ∀ s l, α s = some l → ∃ u, αv s = some u ∧ IntsR w u l
  r1 : ∀ s v, ρ s = some v → I32 v
  r2 : ∀ s l, α s = some l → ∀ x ∈ l, I32 x
def resE (r : Except Int Int) : Except (List PanicEntry) Value := match r with
  | .ok v => .ok (.int .i32 v)
  | .error e => .error (stopV e)
theorem kidsB_one {kids : List Node} {c : Int} (h : kidsB kids [c] = true) : ∃ a, kids = [a] ∧ isB a c = true := by
  match kids, h with
  | [], h => simp [kidsB] at h
  | [a], h => simp [kidsB] at h; exact ⟨a, rfl, h⟩
  | a :: b :: r, h => simp [kidsB] at h
theorem kidsB_two {kids : List Node} {c d : Int} (h : kidsB kids [c, d] = true) : ∃ a b, kids = [a, b] ∧ isB a c = true ∧ isB b d = true := by
  match kids, h with
  | [], h => simp [kidsB] at h
  | [a], h => simp [kidsB] at h
  | [a, b], h => simp [kidsB] at h; exact ⟨a, b, rfl, h.1, h.2⟩
  | a :: b :: d :: r, h => simp [kidsB] at h
theorem kidsB_nil {kids : List Node} (h : kidsB kids [] = true) : kids = [] := by
  match kids, h with
  | [], _ => rfl
  | a :: r, h => simp [kidsB] at h
/-- The shapes of an expression. -/
theorem expr_cases {k n : Int} {s : ByteArray} {kids : List Node} (h : isB (.mk k n s kids) 1 = true) :
    (k = 1 ∧ kids = []) ∨ (k = 2 ∧ kids = []) ∨ (k = 3 ∧ ∃ a, kids = [a] ∧ isB a 1 = true) ∨ ((k = 4 ∨ k = 5) ∧ ∃ a, kids = [a] ∧ isB a 1 = true) ∨ ((6 ≤ k ∧ k ≤ 23) ∧ ∃ a b, kids = [a, b] ∧ isB a 1 = true ∧ isB b 1 = true) := by
  rw [isB] at h
  by_cases h47 : k = 47
  · rw [if_pos h47] at h
    rw [show (bitAnd .u8 1 8 != 0) = false by decide] at h
    exact absurd h (by rw [Bool.false_and, Bool.false_and, Bool.false_and]; decide)
  rw [if_neg h47] at h
  cases hf : formOf k with
  | none => rw [hf] at h; cases h
  | some f =>
    rw [hf] at h
    simp only [Bool.and_eq_true] at h
    obtain ⟨⟨⟨⟨⟨h1, -⟩, -⟩, -⟩, -⟩, h2⟩ := h
    unfold formOf at hf
    have no : ∀ z : Int, bitAnd .u8 4 1 = 0 := fun _ => by decide
    by_cases e : k = 46
    · rw [if_pos e] at hf; injection hf with hf; subst hf; exact absurd h1 (by rw [no 0]; decide)
    rw [if_neg e] at hf
    by_cases e : k = 45
    · rw [if_pos e] at hf; injection hf with hf; subst hf; exact absurd h1 (by rw [no 0]; decide)
    rw [if_neg e] at hf
    by_cases e : k = 44
    · rw [if_pos e] at hf; injection hf with hf; subst hf; exact absurd h1 (by rw [no 0]; decide)
    rw [if_neg e] at hf
    by_cases e : k = 43
    · rw [if_pos e] at hf; injection hf with hf; subst hf; exact absurd h1 (by rw [no 0]; decide)
    rw [if_neg e] at hf
    by_cases e : k = 42
    · rw [if_pos e] at hf; injection hf with hf; subst hf; exact absurd h1 (by rw [no 0]; decide)
    rw [if_neg e] at hf
    by_cases e : k = 41
    · rw [if_pos e] at hf; injection hf with hf; subst hf; exact absurd h1 (by rw [no 0]; decide)
    rw [if_neg e] at hf
    by_cases e : k = 40
    · rw [if_pos e] at hf; injection hf with hf; subst hf; exact absurd h1 (by rw [no 0]; decide)
    rw [if_neg e] at hf
    by_cases e : k = 5
    · rw [if_pos e] at hf; injection hf with hf; subst hf; exact .inr (.inr (.inr (.inl ⟨.inr e, kidsB_one h2⟩)))
    rw [if_neg e] at hf
    by_cases e : k = 4
    · rw [if_pos e] at hf; injection hf with hf; subst hf; exact .inr (.inr (.inr (.inl ⟨.inl e, kidsB_one h2⟩)))
    rw [if_neg e] at hf
    by_cases e : k = 3
    · rw [if_pos e] at hf; injection hf with hf; subst hf; exact .inr (.inr (.inl ⟨e, kidsB_one h2⟩))
    rw [if_neg e] at hf
    by_cases e : k = 2
    · rw [if_pos e] at hf; injection hf with hf; subst hf; exact .inr (.inl ⟨e, kidsB_nil h2⟩)
    rw [if_neg e] at hf
    by_cases e : k = 1
    · rw [if_pos e] at hf; injection hf with hf; subst hf; exact .inl ⟨e, kidsB_nil h2⟩
    rw [if_neg e] at hf
    by_cases e : 6 ≤ k ∧ k ≤ 23
    · rw [if_pos e] at hf; injection hf with hf; subst hf; exact .inr (.inr (.inr (.inr ⟨e, kidsB_two h2⟩)))
    · rw [if_neg e] at hf; cases hf
end Go.Proofs.YtgmapenlgammfaaGreatDoor
