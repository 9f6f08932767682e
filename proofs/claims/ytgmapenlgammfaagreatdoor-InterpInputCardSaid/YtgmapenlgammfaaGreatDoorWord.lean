/- Contracts of the functions of package word, and of interp.fail and interp.index. -/
import Derived.Test.YtgmapenlgammfaaGreatDoorTy
import Derived.Test.YtgmapenlgammfaaGreatDoorTac
set_option linter.all false
namespace Go.Proofs.YtgmapenlgammfaaGreatDoor
open Go

def truthI (b : Bool) : Int := if b then 1 else 0
/-- The comparisons and the logical operators. -/
def cmpI (op x y : Int) : Option Int :=
  if op = 16 then some (truthI (x == y)) else if op = 17 then some (truthI (x != y)) else if op = 18 then some (truthI (decide (x < y))) else if op = 19 then some (truthI (decide (x ≤ y)))
  else if op = 20 then some (truthI (decide (x > y))) else if op = 21 then some (truthI (decide (x ≥ y))) else if op = 22 then some (truthI (x != 0 && y != 0)) else if op = 23 then some (truthI (x != 0 || y != 0)) else none
/-- A binary operator: the value, or an error number. -/
def applyI (op x y : Int) : Int × Int :=
  if op = 6 then (IntKind.i32.wrap (x + y), 0) else if op = 7 then (IntKind.i32.wrap (x - y), 0) else if op = 8 then (IntKind.i32.wrap (x * y), 0)
  else if op = 9 then (if y = 0 then (0, 9) else (IntKind.i32.wrap (x.tdiv y), 0)) else if op = 10 then (if y = 0 then (0, 9) else (x.tmod y, 0))
  else if op = 11 then (bitAnd .i32 x y, 0) else if op = 12 then (bitOr .i32 x y, 0) else if op = 13 then (bitXor .i32 x y, 0)
  else if op = 14 then (shlI .i32 x ((IntKind.u32.wrap y).tmod 32), 0) else if op = 15 then (shrI .i32 x ((IntKind.u32.wrap y).tmod 32), 0)
  else match cmpI op x y with
    | some v => (v, 0)
    | none => (0, 1)
def unaryI (op x : Int) : Int × Int := if op = 4 then (IntKind.i32.wrap (0 - x), 0) else if op = 5 then (truthI (x == 0), 0) else (0, 1)

theorem truth_spec (w0 : World) (b : Bool) : Spec Tryz.prog w0 152 #[.bool b] [] (Is (.int .i32 (truthI b))) := by
  refine Spec.enter (args := [_]) Tryz.func152 rfl rfl rfl (fun F => ?_)
  refine kAuto ?_
  cases b
  · refine kAuto ?_
    exact XJ.ret1 rfl rfl [] (Gives.refl _) ⟨rfl, rfl⟩
  · refine kAuto ?_
    exact XJ.ret1 rfl rfl [] (Gives.refl _) ⟨rfl, rfl⟩

theorem unary_spec (w0 : World) (op x : Int) : Spec Tryz.prog w0 102 #[.int .u8 op, .int .i32 x] [] (Is (.tuple #[.int .i32 (unaryI op x).1, .int .i64 (unaryI op x).2])) := by
  refine Spec.enter (args := [_, _]) Tryz.func102 rfl rfl rfl (fun F => ?_)
  refine kAuto ?_
  (refine CJ.cond (by exact kEv) (fun h4 => ?_) (fun h4 => ?_))
  · obtain rfl : op = 4 := by simpa using h4
    refine kAuto ?_
    exact XJ.ret2 rfl rfl rfl [] (Gives.refl _) ⟨rfl, rfl⟩
  refine kAuto ?_
  (refine CJ.cond (by exact kEv) (fun h5 => ?_) (fun h5 => ?_))
  · obtain rfl : op = 5 := by simpa using h5
    refine kAuto ?_
    (apply RL.callIs; exact kEv; exact inferInstance; exact kEvl; exact truth_spec _ _; exact rfl)
    refine kAuto ?_
    exact XJ.ret2 rfl rfl rfl [] (Gives.refl _) ⟨rfl, rfl⟩
  refine kAuto ?_
  have e4 : ¬ op = 4 := by simpa using h4
  have e5 : ¬ op = 5 := by simpa using h5
  exact XJ.ret2 rfl rfl rfl [] (Gives.refl _) ⟨by simp [unaryI, e4, e5], rfl⟩

theorem compare_spec (w0 : World) (op x y : Int) : Spec Tryz.prog w0 153 #[.int .u8 op, .int .i32 x, .int .i32 y] [] (Is (.tuple #[.int .i32 ((cmpI op x y).getD 0), .bool (cmpI op x y).isSome])) := by
  refine Spec.enter (args := [_, _, _]) Tryz.func153 rfl rfl rfl (fun F => ?_)
  refine kAuto ?_
  (refine CJ.cond (by exact kEv) (fun h16 => ?_) (fun h16 => ?_))
  · obtain rfl : op = 16 := by simpa using h16
    refine kAuto ?_
    (apply RL.callIs; exact kEv; exact inferInstance; exact kEvl; exact truth_spec _ _; exact rfl)
    refine kAuto ?_
    exact XJ.ret2 rfl rfl rfl [] (Gives.refl _) ⟨rfl, rfl⟩
  refine kAuto ?_
  (refine CJ.cond (by exact kEv) (fun h17 => ?_) (fun h17 => ?_))
  · obtain rfl : op = 17 := by simpa using h17
    refine kAuto ?_
    (apply RL.callIs; exact kEv; exact inferInstance; exact kEvl; exact truth_spec _ _; exact rfl)
    refine kAuto ?_
    exact XJ.ret2 rfl rfl rfl [] (Gives.refl _) ⟨rfl, rfl⟩
  refine kAuto ?_
  (refine CJ.cond (by exact kEv) (fun h18 => ?_) (fun h18 => ?_))
  · obtain rfl : op = 18 := by simpa using h18
    refine kAuto ?_
    (apply RL.callIs; exact kEv; exact inferInstance; exact kEvl; exact truth_spec _ _; exact rfl)
    refine kAuto ?_
    exact XJ.ret2 rfl rfl rfl [] (Gives.refl _) ⟨rfl, rfl⟩
  refine kAuto ?_
  (refine CJ.cond (by exact kEv) (fun h19 => ?_) (fun h19 => ?_))
  · obtain rfl : op = 19 := by simpa using h19
    refine kAuto ?_
    (apply RL.callIs; exact kEv; exact inferInstance; exact kEvl; exact truth_spec _ _; exact rfl)
    refine kAuto ?_
    exact XJ.ret2 rfl rfl rfl [] (Gives.refl _) ⟨rfl, rfl⟩
  refine kAuto ?_
  (refine CJ.cond (by exact kEv) (fun h20 => ?_) (fun h20 => ?_))
  · obtain rfl : op = 20 := by simpa using h20
    refine kAuto ?_
    (apply RL.callIs; exact kEv; exact inferInstance; exact kEvl; exact truth_spec _ _; exact rfl)
    refine kAuto ?_
    exact XJ.ret2 rfl rfl rfl [] (Gives.refl _) ⟨rfl, rfl⟩
  refine kAuto ?_
  (refine CJ.cond (by exact kEv) (fun h21 => ?_) (fun h21 => ?_))
  · obtain rfl : op = 21 := by simpa using h21
    refine kAuto ?_
    (apply RL.callIs; exact kEv; exact inferInstance; exact kEvl; exact truth_spec _ _; exact rfl)
    refine kAuto ?_
    exact XJ.ret2 rfl rfl rfl [] (Gives.refl _) ⟨rfl, rfl⟩
  refine kAuto ?_
  (refine CJ.cond (by exact kEv) (fun h22 => ?_) (fun h22 => ?_))
  · obtain rfl : op = 22 := by simpa using h22
    refine kAuto ?_
    cases hx : (x != 0)
    all_goals
      refine kAuto ?_
      (apply RL.callIs; exact kEv; exact inferInstance; exact kEvl; exact truth_spec _ _; exact rfl)
      refine kAuto ?_
      exact XJ.ret2 rfl rfl rfl [] (Gives.refl _) ⟨by simp [cmpI, hx], rfl⟩
  refine kAuto ?_
  (refine CJ.cond (by exact kEv) (fun h23 => ?_) (fun h23 => ?_))
  · obtain rfl : op = 23 := by simpa using h23
    refine kAuto ?_
    cases hx : (x != 0)
    all_goals
      refine kAuto ?_
      (apply RL.callIs; exact kEv; exact inferInstance; exact kEvl; exact truth_spec _ _; exact rfl)
      refine kAuto ?_
      exact XJ.ret2 rfl rfl rfl [] (Gives.refl _) ⟨by simp [cmpI, hx], rfl⟩
  refine kAuto ?_
  have e16 : ¬ op = 16 := by simpa using h16
  have e17 : ¬ op = 17 := by simpa using h17
  have e18 : ¬ op = 18 := by simpa using h18
  have e19 : ¬ op = 19 := by simpa using h19
  have e20 : ¬ op = 20 := by simpa using h20
  have e21 : ¬ op = 21 := by simpa using h21
  have e22 : ¬ op = 22 := by simpa using h22
  have e23 : ¬ op = 23 := by simpa using h23
  exact XJ.ret2 rfl rfl rfl [] (Gives.refl _) ⟨by simp [cmpI, e16, e17, e18, e19, e20, e21, e22, e23], rfl⟩

theorem u32_nonneg (n : Int) : 0 ≤ IntKind.u32.wrap n := by
  simp only [IntKind.wrap, IntKind.signed, IntKind.bits]
  simp
  omega

theorem apply_spec (w0 : World) (op x y : Int) : Spec Tryz.prog w0 103 #[.int .u8 op, .int .i32 x, .int .i32 y] [] (Is (.tuple #[.int .i32 (applyI op x y).1, .int .i64 (applyI op x y).2])) := by
  refine Spec.enter (args := [_, _, _]) Tryz.func103 rfl rfl rfl (fun F => ?_)
  refine kAuto ?_
  (refine CJ.cond (by exact kEv) (fun h6 => ?_) (fun h6 => ?_))
  · obtain rfl : op = 6 := by simpa using h6
    refine kAuto ?_
    exact XJ.ret2 rfl rfl rfl [] (Gives.refl _) ⟨rfl, rfl⟩
  refine kAuto ?_
  (refine CJ.cond (by exact kEv) (fun h7 => ?_) (fun h7 => ?_))
  · obtain rfl : op = 7 := by simpa using h7
    refine kAuto ?_
    exact XJ.ret2 rfl rfl rfl [] (Gives.refl _) ⟨rfl, rfl⟩
  refine kAuto ?_
  (refine CJ.cond (by exact kEv) (fun h8 => ?_) (fun h8 => ?_))
  · obtain rfl : op = 8 := by simpa using h8
    refine kAuto ?_
    exact XJ.ret2 rfl rfl rfl [] (Gives.refl _) ⟨rfl, rfl⟩
  refine kAuto ?_
  (refine CJ.cond (by exact kEv) (fun h9 => ?_) (fun h9 => ?_))
  · obtain rfl : op = 9 := by simpa using h9
    refine kAuto ?_
    (refine CJ.cond (by exact kEv) (fun hy => ?_) (fun hy => ?_))
    · obtain rfl : y = 0 := by simpa using hy
      refine kAuto ?_
      exact XJ.ret2 rfl rfl rfl [] (Gives.refl _) ⟨rfl, rfl⟩
    · have hy' : ¬ y = 0 := by simpa using hy
      refine kAuto ?_
      apply RL.pur; (apply OpP.quo; exact kEv; exact kEv; exact hy'); exact rfl
      refine kAuto ?_
      exact XJ.ret2 rfl rfl rfl [] (Gives.refl _) ⟨by simp [applyI, hy'], rfl⟩
  refine kAuto ?_
  (refine CJ.cond (by exact kEv) (fun h10 => ?_) (fun h10 => ?_))
  · obtain rfl : op = 10 := by simpa using h10
    refine kAuto ?_
    (refine CJ.cond (by exact kEv) (fun hy => ?_) (fun hy => ?_))
    · obtain rfl : y = 0 := by simpa using hy
      refine kAuto ?_
      exact XJ.ret2 rfl rfl rfl [] (Gives.refl _) ⟨rfl, rfl⟩
    · have hy' : ¬ y = 0 := by simpa using hy
      refine kAuto ?_
      apply RL.pur; (apply OpP.rem; exact kEv; exact kEv; exact hy'); exact rfl
      refine kAuto ?_
      exact XJ.ret2 rfl rfl rfl [] (Gives.refl _) ⟨by simp [applyI, hy'], rfl⟩
  refine kAuto ?_
  (refine CJ.cond (by exact kEv) (fun h11 => ?_) (fun h11 => ?_))
  · obtain rfl : op = 11 := by simpa using h11
    refine kAuto ?_
    exact XJ.ret2 rfl rfl rfl [] (Gives.refl _) ⟨rfl, rfl⟩
  refine kAuto ?_
  (refine CJ.cond (by exact kEv) (fun h12 => ?_) (fun h12 => ?_))
  · obtain rfl : op = 12 := by simpa using h12
    refine kAuto ?_
    exact XJ.ret2 rfl rfl rfl [] (Gives.refl _) ⟨rfl, rfl⟩
  refine kAuto ?_
  (refine CJ.cond (by exact kEv) (fun h13 => ?_) (fun h13 => ?_))
  · obtain rfl : op = 13 := by simpa using h13
    refine kAuto ?_
    exact XJ.ret2 rfl rfl rfl [] (Gives.refl _) ⟨rfl, rfl⟩
  refine kAuto ?_
  (refine CJ.cond (by exact kEv) (fun h14 => ?_) (fun h14 => ?_))
  · obtain rfl : op = 14 := by simpa using h14
    refine kAuto ?_
    apply RL.pur; (apply OpP.rem; exact kEv; exact kEv; decide); exact rfl
    apply RL.pur; (apply OpP.shl; exact kEv; exact kEv; (rw [Int.tmod_eq_emod_of_nonneg (u32_nonneg _)]; omega)); exact rfl
    refine kAuto ?_
    exact XJ.ret2 rfl rfl rfl [] (Gives.refl _) ⟨rfl, rfl⟩
  refine kAuto ?_
  (refine CJ.cond (by exact kEv) (fun h15 => ?_) (fun h15 => ?_))
  · obtain rfl : op = 15 := by simpa using h15
    refine kAuto ?_
    apply RL.pur; (apply OpP.rem; exact kEv; exact kEv; decide); exact rfl
    apply RL.pur; (apply OpP.shr; exact kEv; exact kEv; (rw [Int.tmod_eq_emod_of_nonneg (u32_nonneg _)]; omega)); exact rfl
    refine kAuto ?_
    exact XJ.ret2 rfl rfl rfl [] (Gives.refl _) ⟨rfl, rfl⟩
  refine kAuto ?_
  (apply RL.callIs; exact kEv; exact inferInstance; exact kEvl; exact compare_spec _ _ _ _; exact rfl)
  refine kAuto ?_
  have e6 : ¬ op = 6 := by simpa using h6
  have e7 : ¬ op = 7 := by simpa using h7
  have e8 : ¬ op = 8 := by simpa using h8
  have e9 : ¬ op = 9 := by simpa using h9
  have e10 : ¬ op = 10 := by simpa using h10
  have e11 : ¬ op = 11 := by simpa using h11
  have e12 : ¬ op = 12 := by simpa using h12
  have e13 : ¬ op = 13 := by simpa using h13
  have e14 : ¬ op = 14 := by simpa using h14
  have e15 : ¬ op = 15 := by simpa using h15
  cases hc : cmpI op x y with
  | none =>
    refine kAuto ?_
    exact XJ.ret2 rfl rfl rfl [] (Gives.refl _) ⟨by simp [applyI, hc, e6, e7, e8, e9, e10, e11, e12, e13, e14, e15], rfl⟩
  | some r =>
    refine kAuto ?_
    exact XJ.ret2 rfl rfl rfl [] (Gives.refl _) ⟨by simp [applyI, hc, e6, e7, e8, e9, e10, e11, e12, e13, e14, e15], rfl⟩

/-- The panic of interp.fail: an error of type interp.stop. -/
def stopV (e : Int) : List PanicEntry := [{ v := .iface 158 (.agg #[.int .i64 e]), recovered := false }]
theorem fail_spec (w0 : World) (e : Int) : Spec Tryz.prog w0 99 #[.int .i64 e] [] (IsE (if e = 0 then .ok (.tuple #[]) else .error (stopV e))) := by
  refine Spec.enter (args := [_]) Tryz.func99 rfl rfl rfl (fun F => ?_)
  refine kAuto ?_
  (refine CJ.cond (by exact kEv) (fun h => ?_) (fun h => ?_))
  · have h' : ¬ e = 0 := by simpa using h
    refine kAuto ?_
    refine RL.s0 (OpS.panic (by exact kEv) (fun w => by rfl)) (fun _ _ hh => hh.elim) ?_
    rintro _ _ ⟨rfl, rfl⟩
    refine kAuto ?_
    refine XJ.panics [] (Gives.refl _) ⟨?_, rfl⟩
    rw [if_neg h']
    rfl
  · have h' : e = 0 := by simpa using h
    refine kAuto ?_
    exact XJ.end0 rfl [] (Gives.refl _) ⟨by rw [if_pos h'], rfl⟩
end Go.Proofs.YtgmapenlgammfaaGreatDoor
