/- The values of expressions are words. -/
import Derived.Test.YtgmapenlgammfaaGreatDoorEval
set_option linter.all false
namespace Go.Proofs.YtgmapenlgammfaaGreatDoor
open Go
theorem I32.wrap (x : Int) : I32 (IntKind.i32.wrap x) := by
  unfold I32
  simp only [IntKind.wrap, IntKind.signed, IntKind.bits]
  simp
  split <;> omega
theorem I32.truth (b : Bool) : I32 (truthI b) := by cases b <;> (unfold I32 truthI; decide)
theorem I32.zero : I32 0 := by unfold I32; decide
theorem unary_range (op x : Int) : I32 (unaryI op x).1 := by
  unfold unaryI
  split
  · exact .wrap _
  · split
    · exact .truth _
    · exact .zero
theorem cmp_range (op x y : Int) : ∀ v, cmpI op x y = some v → I32 v := by
  intro v h
  unfold cmpI at h
  repeat (split at h; · injection h with h; subst h; exact .truth _)
  cases h
theorem tmod_range {x : Int} (h : I32 x) (y : Int) : I32 (x.tmod y) := by
  unfold I32 at *
  have h1 := Int.natAbs_tmod x y
  have h2 := Nat.mod_le x.natAbs y.natAbs
  rcases Int.le_total 0 x with hx | hx
  · have := Int.tmod_nonneg y hx
    omega
  · have := Int.tmod_nonneg y (show 0 ≤ -x by omega)
    rw [Int.neg_tmod] at this
    omega
theorem shr_range {x : Int} (h : I32 x) (j : Int) : I32 (shrI .i32 x j) := by
  unfold I32 shrI at *
  have hp : (0 : Int) < 2 ^ (min j.toNat IntKind.i32.bits) := Int.pow_pos (by decide)
  generalize (2 : Int) ^ (min j.toNat IntKind.i32.bits) = d at hp
  rw [Int.fdiv_eq_ediv_of_nonneg _ (by omega)]
  have h1 := Int.mul_ediv_add_emod x d
  have h2 := Int.emod_nonneg x (show d ≠ 0 by omega)
  have h3 := Int.emod_lt_of_pos x hp
  constructor
  · rcases Int.lt_or_le (x / d) (-2147483648) with hh | hh
    · have : d * (x / d) ≤ d * (-2147483649) := Int.mul_le_mul_of_nonneg_left (by omega) (by omega)
      omega
    · exact hh
  · rcases Int.lt_or_le 2147483647 (x / d) with hh | hh
    · have : d * 2147483648 ≤ d * (x / d) := Int.mul_le_mul_of_nonneg_left (by omega) (by omega)
      omega
    · exact hh
theorem apply_range (op x y : Int) (hx : I32 x) : I32 (applyI op x y).1 := by
  unfold applyI
  repeat' split
  all_goals first | exact .wrap _ | exact .zero | exact tmod_range hx _ | exact shr_range hx _ | (rename_i h; exact cmp_range _ _ _ _ h)
theorem evalOp_range {ρ : ByteArray → Option Int} {α : ByteArray → Option (List Int)} (h1 : ∀ s v, ρ s = some v → I32 v) (h2 : ∀ s l, α s = some l → ∀ x ∈ l, I32 x) (k n : Int) (s : ByteArray) (vs : List (Except Int Int)) (hv : ∀ v, .ok v ∈ vs → I32 v) : ∀ v, evalOp ρ α k n s vs = .ok v → I32 v := by
  have hg : ∀ i v, vs.getD i (.error 0) = .ok v → I32 v := by
    intro i v h
    rw [List.getD_eq_getElem?_getD] at h
    cases e : vs[i]? with
    | none => rw [e] at h; cases h
    | some u => rw [e] at h; simp at h; subst h; exact hv v (List.mem_of_getElem? e)
  intro v h
  unfold evalOp at h
  split at h
  · injection h with h; subst h; exact .wrap _
  split at h
  · cases e : ρ s with
    | none => rw [e] at h; cases h
    | some u => rw [e] at h; injection h with h; subst h; exact h1 s _ e
  split at h
  · cases e : α s with
    | none => rw [e] at h; cases h
    | some l =>
      rw [e] at h
      simp only at h
      cases e2 : vs.getD 0 (.error 0) with
      | error _ => rw [e2] at h; cases h
      | ok i =>
        rw [e2] at h
        simp only at h
        split at h
        · injection h with h
          subst h
          rw [List.getD_eq_getElem?_getD]
          cases e3 : l[(IntKind.i64.wrap i).toNat]? with
          | none => exact .zero
          | some u => exact h2 s l e u (List.mem_of_getElem? e3)
        · cases h
  split at h
  · cases e2 : vs.getD 0 (.error 0) with
    | error _ => rw [e2] at h; cases h
    | ok i =>
      rw [e2] at h
      simp only at h
      split at h
      · injection h with h; subst h; exact unary_range _ _
      · cases h
  · cases e2 : vs.getD 0 (.error 0) with
    | error _ => rw [e2] at h; cases h
    | ok x =>
      rw [e2] at h
      simp only at h
      cases e3 : vs.getD 1 (.error 0) with
      | error _ => rw [e3] at h; cases h
      | ok y =>
        rw [e3] at h
        simp only at h
        split at h
        · injection h with h; subst h; exact apply_range _ _ _ (hg 0 x e2)
        · cases h
mutual
theorem evalE_range {ρ : ByteArray → Option Int} {α : ByteArray → Option (List Int)} (h1 : ∀ s v, ρ s = some v → I32 v) (h2 : ∀ s l, α s = some l → ∀ x ∈ l, I32 x) : ∀ (n : Node) v, evalE ρ α n = .ok v → I32 v
  | .mk k n s kids => by rw [evalE]; exact evalOp_range h1 h2 k n s _ (evalL_range h1 h2 kids)
theorem evalL_range {ρ : ByteArray → Option Int} {α : ByteArray → Option (List Int)} (h1 : ∀ s v, ρ s = some v → I32 v) (h2 : ∀ s l, α s = some l → ∀ x ∈ l, I32 x) : ∀ (l : List Node) v, .ok v ∈ evalL ρ α l → I32 v
  | [], v, h => by simp [evalL] at h
  | n :: r, v, h => by
    rw [evalL] at h
    rcases List.mem_cons.1 h with h | h
    · exact evalE_range h1 h2 n v h.symm
    · exact evalL_range h1 h2 r v h
end
end Go.Proofs.YtgmapenlgammfaaGreatDoor
