import Derived.Test.YtgmapenlgammfaaGreatDoorGy
import Derived.Test.YtgmapenlgammfaaGreatDoorGA
import Derived.Test.YtgmapenlgammfaaGreatDoorShelf
set_option linter.all false
/- Contracts of the functions of package word, and of interp.fail and interp.index. -/
namespace Go.Proofs.YtgmapenlgammfaaGreatDoor
open Go

def truthI (b : Bool) : Int := if b then 1 else 0
/-- The comparisons and the logical operators. -/
def cmpI (op x y : Int) : Option Int :=
  if op = 16 then some (truthI (x == y)) else if op = 17 then some (truthI (x != y)) else if op = 18 then some (truthI (decide (x < y))) else if op = 19 then some (truthI (decide (x ≤ y)))
  else if op = 20 then some (truthI (decide (x > y))) else if op = 21 then some (truthI (decide (x ≥ y))) else if op = 22 then some (truthI (x != 0 && y != 0)) else if op = 23 then some (truthI (x != 0 || y != 0)) else none
/-- A binary operator: the value, or an error number. -/
def applyI (op x y : Int) : Int × Int :=
  if op = 6 then (IntKind.i32.wrap (x + y), 0) else if op = 7 then (IntKind.i32.wrap (x - y), 0) else if op = 8 then (IntKind.i32.wrap (x * y), 0)
  else if op = 9 then (if y = 0 then (0, 9) else (IntKind.i32.wrap (x.tdiv y), 0)) else if op = 10 then (if y = 0 then (0, 9) else (x.tmod y, 0))
  else if op = 11 then (bitAnd .i32 x y, 0) else if op = 12 then (bitOr .i32 x y, 0) else if op = 13 then (bitXor .i32 x y, 0)
  else if op = 14 then (shlI .i32 x ((IntKind.u32.wrap y).tmod 32), 0) else if op = 15 then (shrI .i32 x ((IntKind.u32.wrap y).tmod 32), 0)
  else match cmpI op x y with
    | some v => (v, 0)
    | none => (0, 1)
def unaryI (op x : Int) : Int × Int := if op = 4 then (IntKind.i32.wrap (0 - x), 0) else if op = 5 then (truthI (x == 0), 0) else (0, 1)

theorem truth_spec (w0 : World) (b : Bool) : Spec Tryz.prog w0 152 #[.bool b] [] (Is (.int .i32 (truthI b))) := by
  refine Spec.enter (args := [_]) Tryz.func152 rfl rfl rfl (fun F => ?_)
  refine kAuto ?_
  cases b
  · refine kAuto ?_
    exact XJ.ret1 rfl rfl [] (Gives.refl _) ⟨rfl, rfl⟩
  · refine kAuto ?_
    exact XJ.ret1 rfl rfl [] (Gives.refl _) ⟨rfl, rfl⟩

theorem unary_spec (w0 : World) (op x : Int) : Spec Tryz.prog w0 102 #[.int .u8 op, .int .i32 x] [] (Is (.tuple #[.int .i32 (unaryI op x).1, .int .i64 (unaryI op x).2])) := by
  refine Spec.enter (args := [_, _]) Tryz.func102 rfl rfl rfl (fun F => ?_)
  refine kAuto ?_
  (refine CJ.cond (by exact kEv) (fun h4 => ?_) (fun h4 => ?_))
  · obtain rfl : op = 4 := by simpa using h4
    refine kAuto ?_
    exact XJ.ret2 rfl rfl rfl [] (Gives.refl _) ⟨rfl, rfl⟩
  refine kAuto ?_
  (refine CJ.cond (by exact kEv) (fun h5 => ?_) (fun h5 => ?_))
  · obtain rfl : op = 5 := by simpa using h5
    refine kAuto ?_
    (apply RL.callIs; exact kEv; exact inferInstance; exact kEvl; exact truth_spec _ _; exact rfl)
    refine kAuto ?_
    exact XJ.ret2 rfl rfl rfl [] (Gives.refl _) ⟨rfl, rfl⟩
  refine kAuto ?_
  have e4 : ¬ op = 4 := by simpa using h4
  have e5 : ¬ op = 5 := by simpa using h5
  exact XJ.ret2 rfl rfl rfl [] (Gives.refl _) ⟨by simp [unaryI, e4, e5], rfl⟩

theorem compare_spec (w0 : World) (op x y : Int) : Spec Tryz.prog w0 153 #[.int .u8 op, .int .i32 x, .int .i32 y] [] (Is (.tuple #[.int .i32 ((cmpI op x y).getD 0), .bool (cmpI op x y).isSome])) := by
  refine Spec.enter (args := [_, _, _]) Tryz.func153 rfl rfl rfl (fun F => ?_)
  refine kAuto ?_
  (refine CJ.cond (by exact kEv) (fun h16 => ?_) (fun h16 => ?_))
  · obtain rfl : op = 16 := by simpa using h16
    refine kAuto ?_
    (apply RL.callIs; exact kEv; exact inferInstance; exact kEvl; exact truth_spec _ _; exact rfl)
    refine kAuto ?_
    exact XJ.ret2 rfl rfl rfl [] (Gives.refl _) ⟨rfl, rfl⟩
  refine kAuto ?_
  (refine CJ.cond (by exact kEv) (fun h17 => ?_) (fun h17 => ?_))
  · obtain rfl : op = 17 := by simpa using h17
    refine kAuto ?_
    (apply RL.callIs; exact kEv; exact inferInstance; exact kEvl; exact truth_spec _ _; exact rfl)
    refine kAuto ?_
    exact XJ.ret2 rfl rfl rfl [] (Gives.refl _) ⟨rfl, rfl⟩
  refine kAuto ?_
  (refine CJ.cond (by exact kEv) (fun h18 => ?_) (fun h18 => ?_))
  · obtain rfl : op = 18 := by simpa using h18
    refine kAuto ?_
    (apply RL.callIs; exact kEv; exact inferInstance; exact kEvl; exact truth_spec _ _; exact rfl)
    refine kAuto ?_
    exact XJ.ret2 rfl rfl rfl [] (Gives.refl _) ⟨rfl, rfl⟩
  refine kAuto ?_
  (refine CJ.cond (by exact kEv) (fun h19 => ?_) (fun h19 => ?_))
  · obtain rfl : op = 19 := by simpa using h19
    refine kAuto ?_
    (apply RL.callIs; exact kEv; exact inferInstance; exact kEvl; exact truth_spec _ _; exact rfl)
    refine kAuto ?_
    exact XJ.ret2 rfl rfl rfl [] (Gives.refl _) ⟨rfl, rfl⟩
  refine kAuto ?_
  (refine CJ.cond (by exact kEv) (fun h20 => ?_) (fun h20 => ?_))
  · obtain rfl : op = 20 := by simpa using h20
    refine kAuto ?_
    (apply RL.callIs; exact kEv; exact inferInstance; exact kEvl; exact truth_spec _ _; exact rfl)
    refine kAuto ?_
    exact XJ.ret2 rfl rfl rfl [] (Gives.refl _) ⟨rfl, rfl⟩
  refine kAuto ?_
  (refine CJ.cond (by exact kEv) (fun h21 => ?_) (fun h21 => ?_))
  · obtain rfl : op = 21 := by simpa using h21
    refine kAuto ?_
    (apply RL.callIs; exact kEv; exact inferInstance; exact kEvl; exact truth_spec _ _; exact rfl)
    refine kAuto ?_
    exact XJ.ret2 rfl rfl rfl [] (Gives.refl _) ⟨rfl, rfl⟩
  refine kAuto ?_
  (refine CJ.cond (by exact kEv) (fun h22 => ?_) (fun h22 => ?_))
  · obtain rfl : op = 22 := by simpa using h22
    refine kAuto ?_
    cases hx : (x != 0)
    all_goals
      refine kAuto ?_
      (apply RL.callIs; exact kEv; exact inferInstance; exact kEvl; exact truth_spec _ _; exact rfl)
      refine kAuto ?_
      exact XJ.ret2 rfl rfl rfl [] (Gives.refl _) ⟨by simp [cmpI, hx], rfl⟩
  refine kAuto ?_
  (refine CJ.cond (by exact kEv) (fun h23 => ?_) (fun h23 => ?_))
  · obtain rfl : op = 23 := by simpa using h23
    refine kAuto ?_
    cases hx : (x != 0)
    all_goals
      refine kAuto ?_
      (apply RL.callIs; exact kEv; exact inferInstance; exact kEvl; exact truth_spec _ _; exact rfl)
      refine kAuto ?_
      exact XJ.ret2 rfl rfl rfl [] (Gives.refl _) ⟨by simp [cmpI, hx], rfl⟩
  refine kAuto ?_
  have e16 : ¬ op = 16 := by simpa using h16
  have e17 : ¬ op = 17 := by simpa using h17
  have e18 : ¬ op = 18 := by simpa using h18
  have e19 : ¬ op = 19 := by simpa using h19
  have e20 : ¬ op = 20 := by simpa using h20
  have e21 : ¬ op = 21 := by simpa using h21
  have e22 : ¬ op = 22 := by simpa using h22
  have e23 : ¬ op = 23 := by simpa using h23
  exact XJ.ret2 rfl rfl rfl [] (Gives.refl _) ⟨by simp [cmpI, e16, e17, e18, e19, e20, e21, e22, e23], rfl⟩

theorem u32_nonneg (n : Int) : 0 ≤ IntKind.u32.wrap n := by
  simp only [IntKind.wrap, IntKind.signed, IntKind.bits]
  simp
  omega

theorem apply_spec (w0 : World) (op x y : Int) : Spec Tryz.prog w0 103 #[.int .u8 op, .int .i32 x, .int .i32 y] [] (Is (.tuple #[.int .i32 (applyI op x y).1, .int .i64 (applyI op x y).2])) := by
  refine Spec.enter (args := [_, _, _]) Tryz.func103 rfl rfl rfl (fun F => ?_)
  refine kAuto ?_
  (refine CJ.cond (by exact kEv) (fun h6 => ?_) (fun h6 => ?_))
  · obtain rfl : op = 6 := by simpa using h6
    refine kAuto ?_
    exact XJ.ret2 rfl rfl rfl [] (Gives.refl _) ⟨rfl, rfl⟩
  refine kAuto ?_
  (refine CJ.cond (by exact kEv) (fun h7 => ?_) (fun h7 => ?_))
  · obtain rfl : op = 7 := by simpa using h7
    refine kAuto ?_
    exact XJ.ret2 rfl rfl rfl [] (Gives.refl _) ⟨rfl, rfl⟩
  refine kAuto ?_
  (refine CJ.cond (by exact kEv) (fun h8 => ?_) (fun h8 => ?_))
  · obtain rfl : op = 8 := by simpa using h8
    refine kAuto ?_
    exact XJ.ret2 rfl rfl rfl [] (Gives.refl _) ⟨rfl, rfl⟩
  refine kAuto ?_
  (refine CJ.cond (by exact kEv) (fun h9 => ?_) (fun h9 => ?_))
  · obtain rfl : op = 9 := by simpa using h9
    refine kAuto ?_
    (refine CJ.cond (by exact kEv) (fun hy => ?_) (fun hy => ?_))
    · obtain rfl : y = 0 := by simpa using hy
      refine kAuto ?_
      exact XJ.ret2 rfl rfl rfl [] (Gives.refl _) ⟨rfl, rfl⟩
    · have hy' : ¬ y = 0 := by simpa using hy
      refine kAuto ?_
      apply RL.pur; (apply OpP.quo; exact kEv; exact kEv; exact hy'); exact rfl
      refine kAuto ?_
      exact XJ.ret2 rfl rfl rfl [] (Gives.refl _) ⟨by simp [applyI, hy'], rfl⟩
  refine kAuto ?_
  (refine CJ.cond (by exact kEv) (fun h10 => ?_) (fun h10 => ?_))
  · obtain rfl : op = 10 := by simpa using h10
    refine kAuto ?_
    (refine CJ.cond (by exact kEv) (fun hy => ?_) (fun hy => ?_))
    · obtain rfl : y = 0 := by simpa using hy
      refine kAuto ?_
      exact XJ.ret2 rfl rfl rfl [] (Gives.refl _) ⟨rfl, rfl⟩
    · have hy' : ¬ y = 0 := by simpa using hy
      refine kAuto ?_
      apply RL.pur; (apply OpP.rem; exact kEv; exact kEv; exact hy'); exact rfl
      refine kAuto ?_
      exact XJ.ret2 rfl rfl rfl [] (Gives.refl _) ⟨by simp [applyI, hy'], rfl⟩
  refine kAuto ?_
  (refine CJ.cond (by exact kEv) (fun h11 => ?_) (fun h11 => ?_))
  · obtain rfl : op = 11 := by simpa using h11
    refine kAuto ?_
    exact XJ.ret2 rfl rfl rfl [] (Gives.refl _) ⟨rfl, rfl⟩
  refine kAuto ?_
  (refine CJ.cond (by exact kEv) (fun h12 => ?_) (fun h12 => ?_))
  · obtain rfl : op = 12 := by simpa using h12
    refine kAuto ?_
    exact XJ.ret2 rfl rfl rfl [] (Gives.refl _) ⟨rfl, rfl⟩
  refine kAuto ?_
  (refine CJ.cond (by exact kEv) (fun h13 => ?_) (fun h13 => ?_))
  · obtain rfl : op = 13 := by simpa using h13
    refine kAuto ?_
    exact XJ.ret2 rfl rfl rfl [] (Gives.refl _) ⟨rfl, rfl⟩
  refine kAuto ?_
  (refine CJ.cond (by exact kEv) (fun h14 => ?_) (fun h14 => ?_))
  · obtain rfl : op = 14 := by simpa using h14
    refine kAuto ?_
    apply RL.pur; (apply OpP.rem; exact kEv; exact kEv; decide); exact rfl
    apply RL.pur; (apply OpP.shl; exact kEv; exact kEv; (rw [Int.tmod_eq_emod_of_nonneg (u32_nonneg _)]; omega)); exact rfl
    refine kAuto ?_
    exact XJ.ret2 rfl rfl rfl [] (Gives.refl _) ⟨rfl, rfl⟩
  refine kAuto ?_
  (refine CJ.cond (by exact kEv) (fun h15 => ?_) (fun h15 => ?_))
  · obtain rfl : op = 15 := by simpa using h15
    refine kAuto ?_
    apply RL.pur; (apply OpP.rem; exact kEv; exact kEv; decide); exact rfl
    apply RL.pur; (apply OpP.shr; exact kEv; exact kEv; (rw [Int.tmod_eq_emod_of_nonneg (u32_nonneg _)]; omega)); exact rfl
    refine kAuto ?_
    exact XJ.ret2 rfl rfl rfl [] (Gives.refl _) ⟨rfl, rfl⟩
  refine kAuto ?_
  (apply RL.callIs; exact kEv; exact inferInstance; exact kEvl; exact compare_spec _ _ _ _; exact rfl)
  refine kAuto ?_
  have e6 : ¬ op = 6 := by simpa using h6
  have e7 : ¬ op = 7 := by simpa using h7
  have e8 : ¬ op = 8 := by simpa using h8
  have e9 : ¬ op = 9 := by simpa using h9
  have e10 : ¬ op = 10 := by simpa using h10
  have e11 : ¬ op = 11 := by simpa using h11
  have e12 : ¬ op = 12 := by simpa using h12
  have e13 : ¬ op = 13 := by simpa using h13
  have e14 : ¬ op = 14 := by simpa using h14
  have e15 : ¬ op = 15 := by simpa using h15
  cases hc : cmpI op x y with
  | none =>
    refine kAuto ?_
    exact XJ.ret2 rfl rfl rfl [] (Gives.refl _) ⟨by simp [applyI, hc, e6, e7, e8, e9, e10, e11, e12, e13, e14, e15], rfl⟩
  | some r =>
    refine kAuto ?_
    exact XJ.ret2 rfl rfl rfl [] (Gives.refl _) ⟨by simp [applyI, hc, e6, e7, e8, e9, e10, e11, e12, e13, e14, e15], rfl⟩

/-- The panic of interp.fail: an error of type interp.stop. -/
def stopV (e : Int) : List PanicEntry := [{ v := .iface 158 (.agg #[.int .i64 e]), recovered := false }]
theorem fail_spec (w0 : World) (e : Int) : Spec Tryz.prog w0 99 #[.int .i64 e] [] (IsE (if e = 0 then .ok (.tuple #[]) else .error (stopV e))) := by
  refine Spec.enter (args := [_]) Tryz.func99 rfl rfl rfl (fun F => ?_)
  refine kAuto ?_
  (refine CJ.cond (by exact kEv) (fun h => ?_) (fun h => ?_))
  · have h' : ¬ e = 0 := by simpa using h
    refine kAuto ?_
    refine RL.s0 (OpS.panic (by exact kEv) (fun w => by rfl)) (fun _ _ hh => hh.elim) ?_
    rintro _ _ ⟨rfl, rfl⟩
    refine kAuto ?_
    refine XJ.panics [] (Gives.refl _) ⟨?_, rfl⟩
    rw [if_neg h']
    rfl
  · have h' : e = 0 := by simpa using h
    refine kAuto ?_
    exact XJ.end0 rfl [] (Gives.refl _) ⟨by rw [if_pos h'], rfl⟩
end Go.Proofs.YtgmapenlgammfaaGreatDoor

/- Contracts of package lexer's Name and what it calls. -/
namespace Go.Proofs.YtgmapenlgammfaaGreatDoor
open Go

theorem mixed : Tryz.prog.follows .mixedOrders = true := by kernel_rfl
theorem i64_succ (i : Nat) (h : i < 9223372036854775807) : IntKind.i64.wrap ((i : Int) + 1) = ((i + 1 : Nat) : Int) := by
  simp only [IntKind.wrap, IntKind.signed, IntKind.bits]
  simp
  omega

def letterB (c : Int) : Bool := decide (c ≥ 97) && decide (c ≤ 122)
def digitB (c : Int) : Bool := decide (c ≥ 48) && decide (c ≤ 57)
theorem letter_spec (w0 : World) (c : Int) : Spec Tryz.prog w0 155 #[.int .u8 c] [] (Is (.bool (letterB c))) := by
  refine Spec.enter (args := [_]) Tryz.func155 rfl rfl rfl (fun F => ?_)
  refine kAuto ?_
  cases h : decide (c ≥ 97)
  · refine kAuto ?_
    exact XJ.ret1 rfl rfl [] (Gives.refl _) ⟨by simp [letterB, h], rfl⟩
  · refine kAuto ?_
    exact XJ.ret1 rfl rfl [] (Gives.refl _) ⟨by simp [letterB, h], rfl⟩
theorem digit_spec (w0 : World) (c : Int) : Spec Tryz.prog w0 176 #[.int .u8 c] [] (Is (.bool (digitB c))) := by
  refine Spec.enter (args := [_]) Tryz.func176 rfl rfl rfl (fun F => ?_)
  refine kAuto ?_
  cases h : decide (c ≥ 48)
  · refine kAuto ?_
    exact XJ.ret1 rfl rfl [] (Gives.refl _) ⟨by simp [digitB, h], rfl⟩
  · refine kAuto ?_
    exact XJ.ret1 rfl rfl [] (Gives.refl _) ⟨by simp [digitB, h], rfl⟩
def wordB (c : Int) : Bool := letterB c || digitB c
theorem word_spec (w0 : World) (c : Int) : Spec Tryz.prog w0 175 #[.int .u8 c] [] (Is (.bool (wordB c))) := by
  refine Spec.enter (args := [_]) Tryz.func175 rfl rfl rfl (fun F => ?_)
  refine kAuto ?_
  (apply RL.callIs; exact kEv; exact inferInstance; exact kEvl; exact letter_spec _ _; exact rfl)
  refine kAuto ?_
  cases h : letterB c
  · refine kAuto ?_
    (apply RL.callIs; exact kEv; exact inferInstance; exact kEvl; exact digit_spec _ _; exact rfl)
    refine kAuto ?_
    cases h2 : digitB c
    all_goals
      refine kAuto ?_
      exact XJ.ret1 rfl rfl [] (Gives.refl _) ⟨by simp [wordB, h, h2], rfl⟩
  · refine kAuto ?_
    exact XJ.ret1 rfl rfl [] (Gives.refl _) ⟨by simp [wordB, h], rfl⟩

/-- How many bytes at the beginning of a text are letters or digits. -/
def wordLen (l : List UInt8) : Nat := (l.takeWhile fun c => wordB c.toNat).length
theorem wordLen_spec (l : List UInt8) (i : Nat) (hi : i ≤ l.length) (h : ∀ j, j < i → ∀ c, l[j]? = some c → wordB c.toNat = true) (he : ∀ c, l[i]? = some c → wordB c.toNat = false) : wordLen l = i := by
  unfold wordLen
  induction l generalizing i with
  | nil => simp at hi; simp [hi]
  | cons x l ih =>
    cases i with
    | zero =>
      have := he x (by simp)
      simp [List.takeWhile_cons, this]
    | succ i =>
      have h0 := h 0 (by omega) x (by simp)
      have := ih i (by simpa using hi) (fun j hj c hc => h (j + 1) (by omega) c (by simpa using hc)) (fun c hc => he c (by simpa using hc))
      simp [List.takeWhile_cons, h0, this]
theorem run_spec (w0 : World) (s : ByteArray) (b : Nat) (hs : s.size < 9223372036854775807) : Spec Tryz.prog w0 174 #[.func (.func 175) #[] #[], .pointer (some ⟨b, 0, none⟩)] [cel b 9 [.string s]]
    (Ret (fun v N => v = .int .i64 (wordLen s.data.toList) ∧ N = [cel b 9 [.string s]]) noP) := by
  refine Spec.enter (args := [_, _]) Tryz.func174 rfl rfl rfl (fun F => ?_)
  refine kAuto ?_
  refine CJ.loop (σ := Nat) (fun i => i ≤ s.size ∧ ∀ j, j < i → ∀ c, s.data.toList[j]? = some c → wordB c.toNat = true) (fun i => [(4, .int .i64 (i : Int)), (0, .func (.func 175) #[] #[]), (1, .pointer (some ⟨b, 0, none⟩))]) (fun _ => [cel b 9 [.string s]] ++ F) (fun i => s.size - i) 0 ⟨Nat.zero_le _, fun j hj => by omega⟩ (by exact kEsub) (Gives.refl _) ?_
  intro i ⟨hi, hw⟩
  refine kAuto ?_
  cases hl : decide ((i : Int) < (s.size : Int))
  · have hge : i = s.size := by have := of_decide_eq_false hl; omega
    refine kAuto ?_
    refine XJ.ret1 rfl rfl _ (Gives.refl _) ⟨?_, rfl⟩
    rw [wordLen_spec s.data.toList i (by simp; omega) hw (fun c hc => by rw [List.getElem?_eq_none (by simp; omega)] at hc; cases hc)]
  · have hlt : i < s.size := by have := of_decide_eq_true hl; omega
    obtain ⟨c, hc⟩ : ∃ c, s.data.toList[i]? = some c := ⟨s.data.toList[i]'(by simpa using hlt), by simp⟩
    refine kAuto ?_
    apply RL.pur; (apply OpP.sindex; exact kEv; exact kEv; exact (by rw [hc]; rfl)); exact rfl
    refine kAuto ?_
    (apply RL.callIs; exact kEv; exact inferInstance; exact kEvl; exact word_spec _ _; exact rfl)
    refine kAuto ?_
    cases hb : wordB (c.toNat : Int)
    · refine kAuto ?_
      refine XJ.ret1 rfl rfl _ (Gives.refl _) ⟨?_, rfl⟩
      rw [wordLen_spec s.data.toList i (by simp; omega) hw (fun c' hc' => by rw [hc] at hc'; injection hc' with hc'; subst hc'; exact hb)]
    · refine kAuto ?_
      rw [i64_succ i (by omega)]
      refine XJ.round (i + 1) ⟨by omega, fun j hj c' hc' => ?_⟩ (by omega) (by exact kEsub) (Gives.refl _)
      by_cases hji : j = i
      · subst hji; rw [hc] at hc'; injection hc' with hc'; subst hc'; exact hb
      · exact hw j (by omega) c' hc'

/-- The library's table of white space lies in the base. -/
def Tab (w : World) : Prop := Lib.TabIs Tryz.prog w "strings.asciiSpace" .u8 Lib.asciiSpaceTab
theorem Tab.of_below {w w' : World} (h : Tab w) (b : Go.RowKit.Below w.heap.size w w') : Tab w' := by
  have hg : Tryz.prog.globalNamed "strings.asciiSpace" = some 0 := by kernel_rfl
  unfold Tab Lib.TabIs at *
  have hlt : 0 < w.heap.size := by
    rcases Nat.lt_or_ge 0 w.heap.size with h1 | h1
    · exact h1
    · exfalso
      simp only [World.var?, hg, Option.bind_some] at h
      rw [Array.getElem?_eq_none h1] at h
      cases h
  simp only [World.var?, hg, Option.bind_some] at h ⊢
  rw [b.block _ hlt]
  exact h
theorem Tab.sat {w0 w : World} {h : Frag} (t : Tab w0) (s : Sat w0 w h) : Tab w := t.of_below s.below
attribute [local semireducible] Spec pt
/-- A call that lays one new block. -/
theorem Spec.of_alloc {P : Program} {w0 : World} {f : FuncId} {args : Array Value} {g : Nat → Value} {T : TypeId} {cs : List Value}
    (k : ∀ w h, Sat w0 w h → Calls P f args w fun e w' => e = .returned (g w.heap.size) ∧ w' = w.alloc (.cells cs.toArray T)) :
    Spec P w0 f args [] (Ret (fun v N => ∃ b, v = g b ∧ N = [cel b T cs]) noP) := by
  intro F w h m s
  refine (k w h s).mono ?_
  rintro e w' ⟨rfl, rfl⟩
  obtain ⟨h', m', s'⟩ := s.push m (.cells cs.toArray T (0, 0))
  exact ⟨_, h', ⟨_, rfl, rfl⟩, m', s'⟩
theorem fields_spec (w0 : World) (hT : Tab w0) (s : ByteArray) (hs : s.size < 4294967281) (ha : ∀ (j : Nat) b, s.data.toList[j]? = some b → b.toNat < 128) :
    Spec Tryz.prog w0 173 #[.string s] [] (Ret (fun v N => ∃ b, v = .slice (some ⟨b, 0, none⟩) (Lib.fields s.data.toList).length (Lib.fields s.data.toList).length ∧ N = [cel b 9 ((Lib.fields s.data.toList).map fun l => Value.string ⟨l.toArray⟩)]) noP) :=
  Spec.of_alloc (g := fun b => .slice (some ⟨b, 0, none⟩) (Lib.fields s.data.toList).length (Lib.fields s.data.toList).length) fun w h sa => Tryz.strings_Fields s w hs ha (hT.sat sa)

/-! slices.Contains over strings -/
def idxOf (l : List ByteArray) (x : ByteArray) (i : Nat) : Int := match l with
  | [] => -1
  | y :: r => if x = y then (i : Int) else idxOf r x (i + 1)
theorem idxOf_nonneg (l : List ByteArray) (x : ByteArray) : ∀ i, (decide (idxOf l x i ≥ 0)) = l.any (fun y => decide (x = y)) := by
  induction l with
  | nil => intro i; rfl
  | cons y r ih =>
    intro i
    unfold idxOf
    rw [List.any_cons]
    by_cases h : x = y
    · simp [h]
    · simpa [h] using ih (i + 1)
theorem index_spec (w0 : World) (l : List ByteArray) (x : ByteArray) (b c : Nat) (hl : l.length < 4611686018427387904) (pre : List HProp) (hh : HasAt w0 pre b 0 (l.map Value.string)) :
    Spec Tryz.prog w0 180 #[.slice (some ⟨b, 0, none⟩) l.length c, .string x] pre (Ret (fun v N => v = .int .i64 (idxOf l x 0) ∧ N = pre) noP) := by
  refine Spec.enter (args := [_, _]) Tryz.func180 rfl rfl rfl (fun F => ?_)
  refine kAuto ?_
  refine CJ.loop (σ := Nat) (fun i => i ≤ l.length ∧ idxOf l x 0 = idxOf (l.drop i) x i) (fun i => [(8, .int .i64 (i : Int)), (0, .slice (some ⟨b, 0, none⟩) l.length c), (1, .string x), (7, .int .i64 (l.length : Int))]) (fun _ => pre ++ F) (fun i => l.length - i) 0 ⟨Nat.zero_le _, by simp⟩ (by exact kEsub) (Gives.refl _) ?_
  intro i ⟨hi, he⟩
  refine kAuto ?_
  cases hlt : decide ((i : Int) < (l.length : Int))
  · have hge : i = l.length := by have := of_decide_eq_false hlt; omega
    refine kAuto ?_
    refine XJ.ret1 rfl rfl _ (Gives.refl _) ⟨?_, rfl⟩
    rw [he, hge, List.drop_length]
    rfl
  · have hlt' : i < l.length := by have := of_decide_eq_true hlt; omega
    refine kAuto ?_
    apply RL.pur; (apply OpP.indexAddr; exact kEv; exact kEv; exact hlt'); exact rfl
    have hel : HasAt w0 (pre ++ F) b (0 + i * 1) [Value.string (l[i]'hlt')] := (hh.app F).sub (by
      intro j v hv
      rcases j with _ | j
      · simp at hv; subst hv; exact ⟨i, by omega, by simp [hlt']⟩
      · simp at hv)
    apply RL.pur; (apply OpP.load; exact kEv; exact hel); exact rfl
    refine kAuto ?_
    have hd : l.drop i = l[i]'hlt' :: l.drop (i + 1) := List.drop_eq_getElem_cons hlt'
    cases hc : decide (x = l[i]'hlt')
    · refine kAuto ?_
      rw [i64_succ i (by omega)]
      refine XJ.round (i + 1) ⟨by omega, ?_⟩ (by omega) (by exact kEsub) (Gives.refl _)
      rw [he, hd]
      have hc' := of_decide_eq_false hc
      simp [idxOf, hc']
    · refine kAuto ?_
      refine XJ.ret1 rfl rfl _ (Gives.refl _) ⟨?_, rfl⟩
      rw [he, hd]
      have hc' := of_decide_eq_true hc
      simp [idxOf, hc']
theorem contains_spec (w0 : World) (l : List ByteArray) (x : ByteArray) (b c : Nat) (hl : l.length < 4611686018427387904) (pre : List HProp) (hh : HasAt w0 pre b 0 (l.map Value.string)) :
    Spec Tryz.prog w0 172 #[.slice (some ⟨b, 0, none⟩) l.length c, .string x] pre (Ret (fun v N => v = .bool (l.any fun y => decide (x = y)) ∧ N = pre) noP) := by
  refine Spec.enter (args := [_, _]) Tryz.func172 rfl rfl rfl (fun F => ?_)
  refine kAuto ?_
  (apply RL.callK; exact kEv; exact inferInstance; exact kEvl; exact (Takes.app _ _); exact index_spec w0 l x b c hl pre hh; exact rfl)
  rintro _ _ ⟨rfl, rfl⟩
  refine kAuto ?_
  refine XJ.ret1 rfl rfl _ (Gives.refl _) ⟨?_, rfl⟩
  rw [idxOf_nonneg]


/-! keywords and names -/
def kwText : List UInt8 := [97, 114, 114, 97, 121, 32, 98, 111, 117, 110, 100, 32, 101, 108, 115, 101, 32, 102, 111, 114, 32, 105, 102, 32, 105, 110, 32, 108, 111, 99, 107, 32, 111, 117, 116, 32, 112, 101, 114, 105, 111, 100, 32, 115, 104, 97, 114, 101, 100, 32, 116, 97, 115, 107, 32, 118, 97, 114, 32, 119, 104, 105, 108, 101]
def kwList : List ByteArray := (Lib.fields kwText).map fun l => ⟨l.toArray⟩
def kwB (x : ByteArray) : Bool := kwList.any fun y => decide (x = y)
theorem ascii_of {l : List UInt8} (h : (l.all fun c => decide (c.toNat < 128)) = true) : ∀ (j : Nat) b, l[j]? = some b → b.toNat < 128 := by
  intro j b hb
  have := List.all_eq_true.1 h b (List.mem_of_getElem? hb)
  simpa using this
theorem keyword_spec (w0 : World) (hT : Tab w0) (x : ByteArray) : Spec Tryz.prog w0 156 #[.string x] [] (Is (.bool (kwB x))) := by
  refine Spec.enter (args := [_]) Tryz.func156 rfl rfl rfl (fun F => ?_)
  refine kAuto ?_
  (apply RL.callK; exact kEv; exact inferInstance; exact kEvl; exact (Takes.nil _); exact fields_spec w0 hT ⟨kwText.toArray⟩ (by decide) (ascii_of (l := kwText) (by decide)); exact rfl)
  rintro _ _ ⟨b, rfl, rfl⟩
  refine kAuto ?_
  have hh : HasAt w0 [cel b 9 ((Lib.fields kwText).map fun l => Value.string ⟨l.toArray⟩)] b 0 (kwList.map Value.string) := by
    have e : (kwList.map Value.string) = ((Lib.fields kwText).map fun l => Value.string ⟨l.toArray⟩) := by simp [kwList]
    rw [e]
    exact HasAt.pt (Takes.here _ _) atAll
  have hlen : (Lib.fields kwText).length = kwList.length := by simp [kwList]
  (apply RL.callK; exact kEv; exact inferInstance; exact kEvl; exact (Takes.app _ _); exact (show Spec Tryz.prog w0 172 #[.slice (some ⟨b, 0, none⟩) (Lib.fields kwText).length (Lib.fields kwText).length, .string x] _ _ from hlen ▸ contains_spec w0 kwList x b _ (by decide) _ hh); exact rfl)
  rintro _ _ ⟨rfl, rfl⟩
  refine kAuto ?_
  exact XJ.ret1 rfl rfl [] (Gives.trans (Gives.drop1 _ _) (Gives.refl _)) ⟨rfl, rfl⟩

/-- The first byte is a letter: the token is a word. -/
theorem token_spec (w0 : World) (s : ByteArray) (hs : s.size < 9223372036854775807) (c : UInt8) (hc : s.data.toList[0]? = some c) (hl : letterB c.toNat = true) :
    Spec Tryz.prog w0 157 #[.string s] [] (Is (.tuple #[.int .u8 1, .int .i64 (wordLen s.data.toList)])) := by
  refine Spec.enter (args := [_]) Tryz.func157 rfl rfl rfl (fun F => ?_)
  refine kAuto ?_
  (apply RL.box1; exact kEv; exact rfl; exact rfl; intro b)
  refine kAuto ?_
  apply RL.pur; (apply OpP.sindex (j := 0); exact kEv; exact kEv; exact (by rw [hc]; rfl)); exact rfl
  refine kAuto ?_
  (apply RL.callIs; exact kEv; exact inferInstance; exact kEvl; exact letter_spec _ _; exact rfl)
  rw [hl]
  refine kAuto ?_
  (apply RL.callK; exact kEv; exact inferInstance; exact kEvl; exact (Takes.here _ _); exact run_spec w0 s b hs; exact rfl)
  rintro _ _ ⟨rfl, rfl⟩
  refine kAuto ?_
  exact XJ.ret2 rfl rfl rfl [] (Gives.drop1 _ _) ⟨rfl, rfl⟩

/-- lexer.Name. -/
def nameB (s : ByteArray) : Bool :=
  match s.data.toList with
  | [] => false
  | c :: _ => decide (s.size ≤ 12) && letterB c.toNat && !kwB s && decide (wordLen s.data.toList = s.size)
theorem name_spec (w0 : World) (hT : Tab w0) (s : ByteArray) : Spec Tryz.prog w0 106 #[.string s] [] (Is (.bool (nameB s))) := by
  refine Spec.enter (args := [_]) Tryz.func106 rfl rfl rfl (fun F => ?_)
  refine kAuto ?_
  cases hd : s.data.toList with
  | nil =>
    obtain rfl : s = ⟨#[]⟩ := ba_data_inj (by rw [hd])
    refine kAuto ?_
    exact XJ.ret1 rfl rfl [] (Gives.refl _) ⟨rfl, rfl⟩
  | cons c r =>
    have hne : s ≠ ⟨#[]⟩ := fun e => by rw [e] at hd; cases hd
    rw [show decide (s = ⟨#[]⟩) = false from decide_eq_false hne]
    have hc : s.data.toList[0]? = some c := by rw [hd]; rfl
    refine kAuto ?_
    cases h12 : decide ((s.size : Int) > 12)
    · have h12' : s.size ≤ 12 := by have := of_decide_eq_false h12; omega
      have hs : s.size < 9223372036854775807 := by omega
      refine kAuto ?_
      apply RL.pur; (apply OpP.sindex (j := 0); exact kEv; exact kEv; exact (by rw [hc]; rfl)); exact rfl
      refine kAuto ?_
      (apply RL.callIs; exact kEv; exact inferInstance; exact kEvl; exact letter_spec _ _; exact rfl)
      refine kAuto ?_
      cases hl : letterB (c.toNat : Int)
      · refine kAuto ?_
        exact XJ.ret1 rfl rfl [] (Gives.refl _) ⟨by simp [nameB, hd, hl], rfl⟩
      · refine kAuto ?_
        (apply RL.callIs; exact kEv; exact inferInstance; exact kEvl; exact keyword_spec _ hT _; exact rfl)
        refine kAuto ?_
        cases hk : kwB s
        · refine kAuto ?_
          (apply RL.callIs; exact kEv; exact inferInstance; exact kEvl; exact token_spec _ s hs c hc hl; exact rfl)
          refine kAuto ?_
          cases hw : ((wordLen s.data.toList : Int) == (s.size : Int))
          all_goals
            refine kAuto ?_
            refine XJ.ret1 rfl rfl [] (Gives.refl _) ⟨?_, rfl⟩
            rw [hd] at hw
            simp [nameB, hd, hl, hk, h12']
            have hw' := hw
            simp only [beq_iff_eq, beq_eq_false_iff_ne] at hw'
            omega
        · refine kAuto ?_
          exact XJ.ret1 rfl rfl [] (Gives.refl _) ⟨by simp [nameB, hd, hl, hk], rfl⟩
    · have h12' : ¬ s.size ≤ 12 := by have := of_decide_eq_true h12; omega
      refine kAuto ?_
      exact XJ.ret1 rfl rfl [] (Gives.refl _) ⟨by simp [nameB, hd, h12'], rfl⟩
end Go.Proofs.YtgmapenlgammfaaGreatDoor

/- The program's data as plain Lean: trees, tasks, programs; and how they lie in the base. -/
namespace Go.Proofs.YtgmapenlgammfaaGreatDoor
open Go
attribute [local semireducible] HasAt Base

/-- A node of a syntax tree. -/
inductive Node where
  | mk (kind num : Int) (name : ByteArray) (kids : List Node)
namespace Node
def kind : Node → Int | .mk k _ _ _ => k
def num : Node → Int | .mk _ n _ _ => n
def name : Node → ByteArray | .mk _ _ s _ => s
def kids : Node → List Node | .mk _ _ _ l => l
mutual
/-- The number of nodes. -/
def size : Node → Nat
  | .mk _ _ _ l => sizeAll l + 1
def sizeAll : List Node → Nat
  | [] => 0
  | n :: r => size n + sizeAll r
end
theorem size_mem {l : List Node} {n : Node} (h : n ∈ l) : n.size ≤ sizeAll l := by
  induction l with
  | nil => cases h
  | cons x r ih =>
    rcases List.mem_cons.1 h with rfl | h
    · simp [sizeAll]
    · have := ih h; simp [sizeAll]; omega
theorem size_pos (n : Node) : 0 < n.size := by cases n; simp [size]
theorem length_le (l : List Node) : l.length ≤ sizeAll l := by
  induction l with
  | nil => simp
  | cons x r ih => have := size_pos x; simp [sizeAll]; omega
theorem size_eq (n : Node) : n.size = sizeAll n.kids + 1 := by cases n; simp [size, kids]
theorem size_kid {n m : Node} (h : m ∈ n.kids) : m.size < n.size := by rw [size_eq n]; have := size_mem h; omega
theorem kids_le (n : Node) : n.kids.length < n.size := by rw [size_eq n]; have := length_le n.kids; omega
end Node
structure Arr where
  name : ByteArray
  len : Int
structure Task where
  name : ByteArray
  period : Int
  vars : List ByteArray
  arrays : List Arr
  body : Node
structure Prg where
  shared : List Arr
  tasks : List Task

/-- Rows of sz cells each, one behind the other in the base, from where A says. -/
def RowsB (w0 : World) (sz : Nat) (A : Option Addr) (rows : List (List Value)) : Prop :=
  ∀ (i : Nat) r, rows[i]? = some r → ∃ b o, A = some ⟨b, o, none⟩ ∧ r.length = sz ∧ Base w0 b (o + i * sz) r
theorem Base.up {w0 w : World} {b o : Nat} {vs : List Value} (h : Base w0 b o vs) (k : Go.RowKit.Below w0.heap.size w0 w) : Base w b o vs := fun j v e => by
  have hc := h j v e
  have hlt := World.block_lt_of_cell? w0 _ hc
  unfold World.cell? at hc ⊢
  rw [k.block _ hlt]
  exact hc
theorem RowsB.up {w0 w : World} {sz : Nat} {A : Option Addr} {rows : List (List Value)} (h : RowsB w0 sz A rows) (k : Go.RowKit.Below w0.heap.size w0 w) : RowsB w sz A rows := fun i r e => by
  obtain ⟨b, o, h1, h2, h3⟩ := h i r e
  exact ⟨b, o, h1, h2, h3.up k⟩
/-- How a tree lies in the base: its four cells. -/
inductive NodeR (w0 : World) : Node → List Value → Prop
  | mk {k n : Int} {s : ByteArray} {kids : List Node} {A : Option Addr} {cap : Nat} {rows : List (List Value)} (hl : rows.length = kids.length) (hc : kids.length ≤ cap) (hb : RowsB w0 4 A rows)
      (hk : ∀ (i : Nat) m r, kids[i]? = some m → rows[i]? = some r → NodeR w0 m r) : NodeR w0 (.mk k n s kids) [.int .u8 k, .int .i64 n, .string s, .slice A kids.length cap]
theorem NodeR.open {w0 : World} {n : Node} {cs : List Value} (h : NodeR w0 n cs) : ∃ A cap rows, cs = [.int .u8 n.kind, .int .i64 n.num, .string n.name, .slice A n.kids.length cap] ∧ n.kids.length ≤ cap ∧ rows.length = n.kids.length ∧ RowsB w0 4 A rows ∧ ∀ (i : Nat) m r, n.kids[i]? = some m → rows[i]? = some r → NodeR w0 m r := by
  cases h with
  | mk hl hc hb hk => exact ⟨_, _, _, rfl, hc, hl, hb, hk⟩
theorem NodeR.up {w0 w : World} (k : Go.RowKit.Below w0.heap.size w0 w) {n : Node} {cs : List Value} (h : NodeR w0 n cs) : NodeR w n cs := by
  induction h with
  | mk hl hc hb hk ih => exact .mk hl hc (hb.up k) ih
/-- A list of trees as a slice. -/
structure NodesR (w0 : World) (A : Option Addr) (l : List Node) : Prop where
  ex : ∃ rows : List (List Value), rows.length = l.length ∧ RowsB w0 4 A rows ∧ ∀ (i : Nat) m r, l[i]? = some m → rows[i]? = some r → NodeR w0 m r
theorem NodeR.kids {w0 : World} {n : Node} {cs : List Value} (h : NodeR w0 n cs) : ∃ A cap, cs = [.int .u8 n.kind, .int .i64 n.num, .string n.name, .slice A n.kids.length cap] ∧ n.kids.length ≤ cap ∧ NodesR w0 A n.kids := by
  obtain ⟨A, cap, rows, h1, h2, h3, h4, h5⟩ := h.open
  exact ⟨A, cap, h1, h2, ⟨rows, h3, h4, h5⟩⟩
/-- Element i. -/
theorem NodesR.at_ {w0 : World} {A : Option Addr} {l : List Node} (h : NodesR w0 A l) (i : Nat) (hi : i < l.length) : ∃ b o r, A = some ⟨b, o, none⟩ ∧ Base w0 b (o + i * 4) r ∧ r.length = 4 ∧ NodeR w0 (l[i]'hi) r := by
  obtain ⟨rows, h1, h2, h3⟩ := h.ex
  have hr : rows[i]? = some (rows[i]'(by omega)) := by simp [show i < rows.length by omega]
  obtain ⟨b, o, e1, e2, e3⟩ := h2 i _ hr
  exact ⟨b, o, _, e1, e3, e2, h3 i _ _ (by simp [hi]) hr⟩
theorem NodesR.up {w0 w : World} {A : Option Addr} {l : List Node} (h : NodesR w0 A l) (k : Go.RowKit.Below w0.heap.size w0 w) : NodesR w A l := by
  obtain ⟨rows, h1, h2, h3⟩ := h.ex
  exact ⟨rows, h1, h2.up k, fun i m r e1 e2 => (h3 i m r e1 e2).up k⟩
def arrRow (a : Arr) : List Value := [.string a.name, .int .i64 a.len]
def strRow (s : ByteArray) : List Value := [.string s]
/-- A task's eight cells. -/
structure TaskR (w0 : World) (t : Task) (cs : List Value) : Prop where
  ex : ∃ A1 c1 A2 c2 bs, cs = [.string t.name, .int .i64 t.period, .slice A1 t.vars.length c1, .slice A2 t.arrays.length c2] ++ bs ∧ t.vars.length ≤ c1 ∧ t.arrays.length ≤ c2 ∧ RowsB w0 1 A1 (t.vars.map strRow) ∧ RowsB w0 2 A2 (t.arrays.map arrRow) ∧ NodeR w0 t.body bs
theorem TaskR.up {w0 w : World} {t : Task} {cs : List Value} (h : TaskR w0 t cs) (k : Go.RowKit.Below w0.heap.size w0 w) : TaskR w t cs := by
  obtain ⟨A1, c1, A2, c2, bs, h1, h2, h3, h4, h5, h6⟩ := h.ex
  exact ⟨A1, c1, A2, c2, bs, h1, h2, h3, h4.up k, h5.up k, h6.up k⟩
structure TasksR (w0 : World) (A : Option Addr) (l : List Task) : Prop where
  ex : ∃ rows : List (List Value), rows.length = l.length ∧ RowsB w0 8 A rows ∧ ∀ (i : Nat) m r, l[i]? = some m → rows[i]? = some r → TaskR w0 m r
theorem TasksR.up {w0 w : World} {A : Option Addr} {l : List Task} (h : TasksR w0 A l) (k : Go.RowKit.Below w0.heap.size w0 w) : TasksR w A l := by
  obtain ⟨rows, h1, h2, h3⟩ := h.ex
  exact ⟨rows, h1, h2.up k, fun i m r e1 e2 => (h3 i m r e1 e2).up k⟩
theorem TasksR.at_ {w0 : World} {A : Option Addr} {l : List Task} (h : TasksR w0 A l) (i : Nat) (hi : i < l.length) : ∃ b o r, A = some ⟨b, o, none⟩ ∧ Base w0 b (o + i * 8) r ∧ r.length = 8 ∧ TaskR w0 (l[i]'hi) r := by
  obtain ⟨rows, h1, h2, h3⟩ := h.ex
  have hr : rows[i]? = some (rows[i]'(by omega)) := by simp [show i < rows.length by omega]
  obtain ⟨b, o, e1, e2, e3⟩ := h2 i _ hr
  exact ⟨b, o, _, e1, e3, e2, h3 i _ _ (by simp [hi]) hr⟩
structure PrgR (w0 : World) (p : Prg) (cs : List Value) : Prop where
  ex : ∃ A1 c1 A2 c2, cs = [.slice A1 p.shared.length c1, .slice A2 p.tasks.length c2] ∧ p.shared.length ≤ c1 ∧ p.tasks.length ≤ c2 ∧ RowsB w0 2 A1 (p.shared.map arrRow) ∧ TasksR w0 A2 p.tasks
theorem PrgR.up {w0 w : World} {p : Prg} {cs : List Value} (h : PrgR w0 p cs) (k : Go.RowKit.Below w0.heap.size w0 w) : PrgR w p cs := by
  obtain ⟨A1, c1, A2, c2, h1, h2, h3, h4, h5⟩ := h.ex
  exact ⟨A1, c1, A2, c2, h1, h2, h3, h4.up k, h5.up k⟩
theorem RowsB.at_ {w0 : World} {sz : Nat} {A : Option Addr} {rows : List (List Value)} (h : RowsB w0 sz A rows) (i : Nat) (hi : i < rows.length) : ∃ b o, A = some ⟨b, o, none⟩ ∧ (rows[i]'hi).length = sz ∧ Base w0 b (o + i * sz) (rows[i]'hi) := h i _ (by simp [hi])
end Go.Proofs.YtgmapenlgammfaaGreatDoor

/- The library's search functions over slices, at the instances that the program uses. -/
namespace Go.Proofs.YtgmapenlgammfaaGreatDoor
open Go

/-- The first of m indexes from i on that q takes, or -1. -/
def firstI (q : Nat → Bool) (n i m : Nat) : Int := match m with
  | 0 => -1
  | m + 1 => if q i then (i : Int) else firstI q n (i + 1) m
def anyI (q : Nat → Bool) (n : Nat) : Bool := (List.range n).any q
theorem firstI_any (q : Nat → Bool) (n : Nat) : decide (firstI q n 0 n ≥ 0) = anyI q n := by
  have key : ∀ m i, decide (firstI q n i m ≥ 0) = (List.range' i m).any q := by
    intro m
    induction m with
    | zero => intro i; rfl
    | succ m ih =>
      intro i
      rw [List.range'_succ, List.any_cons]
      unfold firstI
      cases h : q i
      · simpa using ih (i + 1)
      · simp
  rw [key, anyI, List.range_eq_range']

theorem node_index_spec (w0 : World) (k : FuncId) (first cap : List Value) (A : Option Addr) (c : Nat) (rows : List (List Value)) (pre : List HProp) (q : Nat → Bool) (ck : CallT Tryz.prog k) (hl : rows.length < 4611686018427387904) (hr : RowsB w0 4 A rows)
    (hf : ∀ i (hi : i < rows.length), Spec Tryz.prog w0 k (first ++ [Value.agg (rows[i]'hi).toArray] ++ cap).toArray pre (Ret (fun v N => v = .bool (q i) ∧ N = pre) noP)) :
    Spec Tryz.prog w0 154 #[.slice A rows.length c, .func (.func k) first.toArray cap.toArray] pre (Ret (fun v N => v = .int .i64 (firstI q rows.length 0 rows.length) ∧ N = pre) noP) := by
  refine Spec.enter (args := [_, _]) Tryz.func154 rfl rfl rfl (fun F => ?_)
  refine kAuto ?_
  refine CJ.loop (σ := Nat) (fun i => i ≤ rows.length ∧ firstI q rows.length 0 rows.length = firstI q rows.length i (rows.length - i)) (fun i => [(8, .int .i64 (i : Int)), (0, .slice A rows.length c), (1, .func (.func k) first.toArray cap.toArray), (7, .int .i64 (rows.length : Int))]) (fun _ => pre ++ F) (fun i => rows.length - i) 0 ⟨Nat.zero_le _, by simp⟩ (by exact kEsub) (Gives.refl _) ?_
  intro i ⟨hi, he⟩
  refine kAuto ?_
  cases hlt : decide ((i : Int) < (rows.length : Int))
  · have hge : i = rows.length := by have := of_decide_eq_false hlt; omega
    refine kAuto ?_
    refine XJ.ret1 rfl rfl _ (Gives.refl _) ⟨?_, rfl⟩
    rw [he, hge, Nat.sub_self]
    rfl
  · have hlt' : i < rows.length := by have := of_decide_eq_true hlt; omega
    obtain ⟨b, o, rfl, hlen, hbase⟩ := hr.at_ i hlt'
    refine kAuto ?_
    apply RL.pur; (apply OpP.indexAddr; exact kEv; exact kEv; exact hlt'); exact rfl
    skip
    apply RL.pur; (apply OpP.loadA; exact kEv; exact HasAt.base hbase; exact hlen); exact rfl
    refine kAuto ?_
    (apply RL.callK; exact kEv; exact ck; exact kEvl; exact Takes.app _ _; exact hf i hlt'; exact rfl)
    rintro _ _ ⟨rfl, rfl⟩
    refine kAuto ?_
    have hs : firstI q rows.length i (rows.length - i) = if q i then (i : Int) else firstI q rows.length (i + 1) (rows.length - (i + 1)) := by
      rw [show rows.length - i = (rows.length - (i + 1)) + 1 by omega]
      rfl
    cases hc : q i
    · refine kAuto ?_
      rw [i64_succ i (by omega)]
      refine XJ.round (i + 1) ⟨by omega, ?_⟩ (by omega) (by exact kEsub) (Gives.refl _)
      rw [he, hs, hc]
      rfl
    · refine kAuto ?_
      refine XJ.ret1 rfl rfl _ (Gives.refl _) ⟨?_, rfl⟩
      rw [he, hs, hc]
      rfl
theorem node_contains_spec (w0 : World) (k : FuncId) (first cap : List Value) (A : Option Addr) (c : Nat) (rows : List (List Value)) (pre : List HProp) (q : Nat → Bool) (ck : CallT Tryz.prog k) (hl : rows.length < 4611686018427387904) (hr : RowsB w0 4 A rows)
    (hf : ∀ i (hi : i < rows.length), Spec Tryz.prog w0 k (first ++ [Value.agg (rows[i]'hi).toArray] ++ cap).toArray pre (Ret (fun v N => v = .bool (q i) ∧ N = pre) noP)) :
    Spec Tryz.prog w0 104 #[.slice A rows.length c, .func (.func k) first.toArray cap.toArray] pre (Ret (fun v N => v = .bool (anyI q rows.length) ∧ N = pre) noP) := by
  refine Spec.enter (args := [_, _]) Tryz.func104 rfl rfl rfl (fun F => ?_)
  refine kAuto ?_
  (apply RL.callK; exact kEv; exact inferInstance; exact kEvl; exact (Takes.app _ _); exact node_index_spec w0 k first cap A c rows pre q ck hl hr hf; exact rfl)
  rintro _ _ ⟨rfl, rfl⟩
  refine kAuto ?_
  refine XJ.ret1 rfl rfl _ (Gives.refl _) ⟨?_, rfl⟩
  rw [firstI_any]

theorem arr_index_spec (w0 : World) (k : FuncId) (first cap : List Value) (A : Option Addr) (c : Nat) (rows : List (List Value)) (pre : List HProp) (q : Nat → Bool) (ck : CallT Tryz.prog k) (hl : rows.length < 4611686018427387904) (hr : RowsB w0 2 A rows)
    (hf : ∀ i (hi : i < rows.length), Spec Tryz.prog w0 k (first ++ [Value.agg (rows[i]'hi).toArray] ++ cap).toArray pre (Ret (fun v N => v = .bool (q i) ∧ N = pre) noP)) :
    Spec Tryz.prog w0 159 #[.slice A rows.length c, .func (.func k) first.toArray cap.toArray] pre (Ret (fun v N => v = .int .i64 (firstI q rows.length 0 rows.length) ∧ N = pre) noP) := by
  refine Spec.enter (args := [_, _]) Tryz.func159 rfl rfl rfl (fun F => ?_)
  refine kAuto ?_
  refine CJ.loop (σ := Nat) (fun i => i ≤ rows.length ∧ firstI q rows.length 0 rows.length = firstI q rows.length i (rows.length - i)) (fun i => [(8, .int .i64 (i : Int)), (0, .slice A rows.length c), (1, .func (.func k) first.toArray cap.toArray), (7, .int .i64 (rows.length : Int))]) (fun _ => pre ++ F) (fun i => rows.length - i) 0 ⟨Nat.zero_le _, by simp⟩ (by exact kEsub) (Gives.refl _) ?_
  intro i ⟨hi, he⟩
  refine kAuto ?_
  cases hlt : decide ((i : Int) < (rows.length : Int))
  · have hge : i = rows.length := by have := of_decide_eq_false hlt; omega
    refine kAuto ?_
    refine XJ.ret1 rfl rfl _ (Gives.refl _) ⟨?_, rfl⟩
    rw [he, hge, Nat.sub_self]
    rfl
  · have hlt' : i < rows.length := by have := of_decide_eq_true hlt; omega
    obtain ⟨b, o, rfl, hlen, hbase⟩ := hr.at_ i hlt'
    refine kAuto ?_
    apply RL.pur; (apply OpP.indexAddr; exact kEv; exact kEv; exact hlt'); exact rfl
    skip
    apply RL.pur; (apply OpP.loadA; exact kEv; exact HasAt.base hbase; exact hlen); exact rfl
    refine kAuto ?_
    (apply RL.callK; exact kEv; exact ck; exact kEvl; exact Takes.app _ _; exact hf i hlt'; exact rfl)
    rintro _ _ ⟨rfl, rfl⟩
    refine kAuto ?_
    have hs : firstI q rows.length i (rows.length - i) = if q i then (i : Int) else firstI q rows.length (i + 1) (rows.length - (i + 1)) := by
      rw [show rows.length - i = (rows.length - (i + 1)) + 1 by omega]
      rfl
    cases hc : q i
    · refine kAuto ?_
      rw [i64_succ i (by omega)]
      refine XJ.round (i + 1) ⟨by omega, ?_⟩ (by omega) (by exact kEsub) (Gives.refl _)
      rw [he, hs, hc]
      rfl
    · refine kAuto ?_
      refine XJ.ret1 rfl rfl _ (Gives.refl _) ⟨?_, rfl⟩
      rw [he, hs, hc]
      rfl
theorem arr_contains_spec (w0 : World) (k : FuncId) (first cap : List Value) (A : Option Addr) (c : Nat) (rows : List (List Value)) (pre : List HProp) (q : Nat → Bool) (ck : CallT Tryz.prog k) (hl : rows.length < 4611686018427387904) (hr : RowsB w0 2 A rows)
    (hf : ∀ i (hi : i < rows.length), Spec Tryz.prog w0 k (first ++ [Value.agg (rows[i]'hi).toArray] ++ cap).toArray pre (Ret (fun v N => v = .bool (q i) ∧ N = pre) noP)) :
    Spec Tryz.prog w0 113 #[.slice A rows.length c, .func (.func k) first.toArray cap.toArray] pre (Ret (fun v N => v = .bool (anyI q rows.length) ∧ N = pre) noP) := by
  refine Spec.enter (args := [_, _]) Tryz.func113 rfl rfl rfl (fun F => ?_)
  refine kAuto ?_
  (apply RL.callK; exact kEv; exact inferInstance; exact kEvl; exact (Takes.app _ _); exact arr_index_spec w0 k first cap A c rows pre q ck hl hr hf; exact rfl)
  rintro _ _ ⟨rfl, rfl⟩
  refine kAuto ?_
  refine XJ.ret1 rfl rfl _ (Gives.refl _) ⟨?_, rfl⟩
  rw [firstI_any]

theorem task_index_spec (w0 : World) (k : FuncId) (first cap : List Value) (A : Option Addr) (c : Nat) (rows : List (List Value)) (pre : List HProp) (q : Nat → Bool) (ck : CallT Tryz.prog k) (hl : rows.length < 4611686018427387904) (hr : RowsB w0 8 A rows)
    (hf : ∀ i (hi : i < rows.length), Spec Tryz.prog w0 k (first ++ [Value.agg (rows[i]'hi).toArray] ++ cap).toArray pre (Ret (fun v N => v = .bool (q i) ∧ N = pre) noP)) :
    Spec Tryz.prog w0 124 #[.slice A rows.length c, .func (.func k) first.toArray cap.toArray] pre (Ret (fun v N => v = .int .i64 (firstI q rows.length 0 rows.length) ∧ N = pre) noP) := by
  refine Spec.enter (args := [_, _]) Tryz.func124 rfl rfl rfl (fun F => ?_)
  refine kAuto ?_
  refine CJ.loop (σ := Nat) (fun i => i ≤ rows.length ∧ firstI q rows.length 0 rows.length = firstI q rows.length i (rows.length - i)) (fun i => [(8, .int .i64 (i : Int)), (0, .slice A rows.length c), (1, .func (.func k) first.toArray cap.toArray), (7, .int .i64 (rows.length : Int))]) (fun _ => pre ++ F) (fun i => rows.length - i) 0 ⟨Nat.zero_le _, by simp⟩ (by exact kEsub) (Gives.refl _) ?_
  intro i ⟨hi, he⟩
  refine kAuto ?_
  cases hlt : decide ((i : Int) < (rows.length : Int))
  · have hge : i = rows.length := by have := of_decide_eq_false hlt; omega
    refine kAuto ?_
    refine XJ.ret1 rfl rfl _ (Gives.refl _) ⟨?_, rfl⟩
    rw [he, hge, Nat.sub_self]
    rfl
  · have hlt' : i < rows.length := by have := of_decide_eq_true hlt; omega
    obtain ⟨b, o, rfl, hlen, hbase⟩ := hr.at_ i hlt'
    refine kAuto ?_
    apply RL.pur; (apply OpP.indexAddr; exact kEv; exact kEv; exact hlt'); exact rfl
    skip
    apply RL.pur; (apply OpP.loadA; exact kEv; exact HasAt.base hbase; exact hlen); exact rfl
    refine kAuto ?_
    (apply RL.callK; exact kEv; exact ck; exact kEvl; exact Takes.app _ _; exact hf i hlt'; exact rfl)
    rintro _ _ ⟨rfl, rfl⟩
    refine kAuto ?_
    have hs : firstI q rows.length i (rows.length - i) = if q i then (i : Int) else firstI q rows.length (i + 1) (rows.length - (i + 1)) := by
      rw [show rows.length - i = (rows.length - (i + 1)) + 1 by omega]
      rfl
    cases hc : q i
    · refine kAuto ?_
      rw [i64_succ i (by omega)]
      refine XJ.round (i + 1) ⟨by omega, ?_⟩ (by omega) (by exact kEsub) (Gives.refl _)
      rw [he, hs, hc]
      rfl
    · refine kAuto ?_
      refine XJ.ret1 rfl rfl _ (Gives.refl _) ⟨?_, rfl⟩
      rw [he, hs, hc]
      rfl
theorem task_contains_spec (w0 : World) (k : FuncId) (first cap : List Value) (A : Option Addr) (c : Nat) (rows : List (List Value)) (pre : List HProp) (q : Nat → Bool) (ck : CallT Tryz.prog k) (hl : rows.length < 4611686018427387904) (hr : RowsB w0 8 A rows)
    (hf : ∀ i (hi : i < rows.length), Spec Tryz.prog w0 k (first ++ [Value.agg (rows[i]'hi).toArray] ++ cap).toArray pre (Ret (fun v N => v = .bool (q i) ∧ N = pre) noP)) :
    Spec Tryz.prog w0 85 #[.slice A rows.length c, .func (.func k) first.toArray cap.toArray] pre (Ret (fun v N => v = .bool (anyI q rows.length) ∧ N = pre) noP) := by
  refine Spec.enter (args := [_, _]) Tryz.func85 rfl rfl rfl (fun F => ?_)
  refine kAuto ?_
  (apply RL.callK; exact kEv; exact inferInstance; exact kEvl; exact (Takes.app _ _); exact task_index_spec w0 k first cap A c rows pre q ck hl hr hf; exact rfl)
  rintro _ _ ⟨rfl, rfl⟩
  refine kAuto ?_
  refine XJ.ret1 rfl rfl _ (Gives.refl _) ⟨?_, rfl⟩
  rw [firstI_any]

theorem str_index_spec (w0 : World) (k : FuncId) (first cap : List Value) (A : Option Addr) (c : Nat) (rows : List (List Value)) (pre : List HProp) (q : Nat → Bool) (ck : CallT Tryz.prog k) (hl : rows.length < 4611686018427387904) (hr : RowsB w0 1 A rows)
    (hf : ∀ i (hi : i < rows.length), Spec Tryz.prog w0 k (first ++ [(rows[i]'hi).headD undef] ++ cap).toArray pre (Ret (fun v N => v = .bool (q i) ∧ N = pre) noP)) :
    Spec Tryz.prog w0 160 #[.slice A rows.length c, .func (.func k) first.toArray cap.toArray] pre (Ret (fun v N => v = .int .i64 (firstI q rows.length 0 rows.length) ∧ N = pre) noP) := by
  refine Spec.enter (args := [_, _]) Tryz.func160 rfl rfl rfl (fun F => ?_)
  refine kAuto ?_
  refine CJ.loop (σ := Nat) (fun i => i ≤ rows.length ∧ firstI q rows.length 0 rows.length = firstI q rows.length i (rows.length - i)) (fun i => [(8, .int .i64 (i : Int)), (0, .slice A rows.length c), (1, .func (.func k) first.toArray cap.toArray), (7, .int .i64 (rows.length : Int))]) (fun _ => pre ++ F) (fun i => rows.length - i) 0 ⟨Nat.zero_le _, by simp⟩ (by exact kEsub) (Gives.refl _) ?_
  intro i ⟨hi, he⟩
  refine kAuto ?_
  cases hlt : decide ((i : Int) < (rows.length : Int))
  · have hge : i = rows.length := by have := of_decide_eq_false hlt; omega
    refine kAuto ?_
    refine XJ.ret1 rfl rfl _ (Gives.refl _) ⟨?_, rfl⟩
    rw [he, hge, Nat.sub_self]
    rfl
  · have hlt' : i < rows.length := by have := of_decide_eq_true hlt; omega
    obtain ⟨b, o, rfl, hlen, hbase⟩ := hr.at_ i hlt'
    refine kAuto ?_
    apply RL.pur; (apply OpP.indexAddr; exact kEv; exact kEv; exact hlt'); exact rfl
    obtain ⟨x, hx⟩ : ∃ x, rows[i]'hlt' = [x] := List.length_eq_one_iff.1 hlen
    rw [hx] at hbase
    apply RL.pur; (apply OpP.load; exact kEv; exact HasAt.base hbase); exact rfl
    refine kAuto ?_
    (apply RL.callK; exact kEv; exact ck; exact kEvl; exact Takes.app _ _; exact (by have h7 := hf i hlt'; rw [hx] at h7; exact h7); exact rfl)
    rintro _ _ ⟨rfl, rfl⟩
    refine kAuto ?_
    have hs : firstI q rows.length i (rows.length - i) = if q i then (i : Int) else firstI q rows.length (i + 1) (rows.length - (i + 1)) := by
      rw [show rows.length - i = (rows.length - (i + 1)) + 1 by omega]
      rfl
    cases hc : q i
    · refine kAuto ?_
      rw [i64_succ i (by omega)]
      refine XJ.round (i + 1) ⟨by omega, ?_⟩ (by omega) (by exact kEsub) (Gives.refl _)
      rw [he, hs, hc]
      rfl
    · refine kAuto ?_
      refine XJ.ret1 rfl rfl _ (Gives.refl _) ⟨?_, rfl⟩
      rw [he, hs, hc]
      rfl
theorem str_contains_spec (w0 : World) (k : FuncId) (first cap : List Value) (A : Option Addr) (c : Nat) (rows : List (List Value)) (pre : List HProp) (q : Nat → Bool) (ck : CallT Tryz.prog k) (hl : rows.length < 4611686018427387904) (hr : RowsB w0 1 A rows)
    (hf : ∀ i (hi : i < rows.length), Spec Tryz.prog w0 k (first ++ [(rows[i]'hi).headD undef] ++ cap).toArray pre (Ret (fun v N => v = .bool (q i) ∧ N = pre) noP)) :
    Spec Tryz.prog w0 125 #[.slice A rows.length c, .func (.func k) first.toArray cap.toArray] pre (Ret (fun v N => v = .bool (anyI q rows.length) ∧ N = pre) noP) := by
  refine Spec.enter (args := [_, _]) Tryz.func125 rfl rfl rfl (fun F => ?_)
  refine kAuto ?_
  (apply RL.callK; exact kEv; exact inferInstance; exact kEvl; exact (Takes.app _ _); exact str_index_spec w0 k first cap A c rows pre q ck hl hr hf; exact rfl)
  rintro _ _ ⟨rfl, rfl⟩
  refine kAuto ?_
  refine XJ.ret1 rfl rfl _ (Gives.refl _) ⟨?_, rfl⟩
  rw [firstI_any]

def allI (q : Nat → Bool) (n : Nat) : Bool := (List.range n).all q
theorem allI_true (q : Nat → Bool) (n : Nat) (h : ∀ j, j < n → q j = true) : allI q n = true := by
  unfold allI
  rw [List.all_eq_true]
  intro x hx
  exact h x (by simpa using hx)
theorem allI_false (q : Nat → Bool) (n i : Nat) (hi : i < n) (h : q i = false) : allI q n = false := by
  unfold allI
  rw [List.all_eq_false]
  exact ⟨i, by simpa using hi, by simp [h]⟩

theorem node_equal_spec (w0 : World) (k : FuncId) (first cap : List Value) (A B : Option Addr) (c e : Nat) (rows : List (List Value)) (us : List Value) (pre : List HProp) (q : Nat → Bool) (ck : CallT Tryz.prog k) (hl : rows.length < 4611686018427387904) (hr : RowsB w0 4 A rows) (hone : ∀ r ∈ rows, r.all (·.oneCell') = true) (hu : RowsB w0 1 B (us.map fun u => [u]))
    (hf : ∀ i (hi : i < rows.length) (hj : i < us.length), Spec Tryz.prog w0 k (first ++ [Value.agg (rows[i]'hi).toArray, us[i]'hj] ++ cap).toArray pre (Ret (fun v N => v = .bool (q i) ∧ N = pre) noP)) :
    Spec Tryz.prog w0 107 #[.slice A rows.length c, .slice B us.length e, .func (.func k) first.toArray cap.toArray] pre (Ret (fun v N => v = .bool (decide (rows.length = us.length) && allI q rows.length) ∧ N = pre) noP) := by
  refine Spec.enter (args := [_, _, _]) Tryz.func107 rfl rfl rfl (fun F => ?_)
  refine kAuto ?_
  cases hne : ((rows.length : Int) != (us.length : Int))
  · have hlen : rows.length = us.length := by have := hne; simp only [bne_eq_false_iff_eq] at this; omega
    refine kAuto ?_
    refine CJ.loop (σ := Nat) (fun i => i ≤ rows.length ∧ ∀ j, j < i → q j = true) (fun i => [(17, .int .i64 (i : Int)), (15, .slice A rows.length c), (1, .slice B us.length e), (2, .func (.func k) first.toArray cap.toArray), (16, .int .i64 (rows.length : Int))]) (fun _ => pre ++ F) (fun i => rows.length - i) 0 ⟨Nat.zero_le _, fun j hj => by omega⟩ (by exact kEsub) (Gives.refl _) ?_
    intro i ⟨hi, hq⟩
    refine kAuto ?_
    cases hlt : decide ((i : Int) < (rows.length : Int))
    · have hge : i = rows.length := by have := of_decide_eq_false hlt; omega
      refine kAuto ?_
      refine XJ.ret1 rfl rfl _ (Gives.refl _) ⟨?_, rfl⟩
      rw [allI_true q rows.length (fun j hj => hq j (by omega)), decide_eq_true hlen]
      rfl
    · have hlt' : i < rows.length := by have := of_decide_eq_true hlt; omega
      obtain ⟨b, o, rfl, hrl, hbase⟩ := hr.at_ i hlt'
      have h1 := hone _ (List.getElem_mem hlt')
      have hf' := hf i hlt' (by omega)
      obtain ⟨b2, o2, rfl, hul, hbase2⟩ := hu.at_ i (by simpa using (by omega : i < us.length))
      simp only [List.getElem_map] at hbase2 hul
      generalize hrow : rows[i]'hlt' = row at hbase hrl h1 hf'
      generalize hus : us[i]'(by omega) = u at hbase2 hul hf'
      refine kAuto ?_
      apply RL.pur; (apply OpP.indexAddr; exact kEv; exact kEv; exact hlt'); exact rfl
      apply RL.pur; (apply OpP.loadA; exact kEv; exact HasAt.base hbase; exact hrl); exact rfl
      (apply RL.alloc; exact rfl; exact rfl; intro b3)
      refine kAuto ?_
      (apply RL.storeW; exact kEv; exact kEv; exact kTake; exact hrl; exact rfl; exact h1)
      refine kAuto ?_
      apply RL.pur; (apply OpP.indexAddr; exact kEv; exact kEv; exact hlen ▸ hlt'); exact rfl
      apply RL.pur; (apply OpP.load; exact kEv; exact HasAt.base hbase2); exact rfl
      refine kAuto ?_
      (apply RL.callK; exact kEv; exact ck; exact kEvl; exact (Takes.there1 (Takes.app _ _)); exact hf'; exact rfl)
      rintro _ _ ⟨rfl, rfl⟩
      refine kAuto ?_
      cases hc : q i
      · refine kAuto ?_
        refine XJ.ret1 rfl rfl _ (Takes.drop2 _ _ _) ⟨?_, rfl⟩
        rw [allI_false q rows.length i hlt' hc, Bool.and_false]
      · refine kAuto ?_
        rw [i64_succ i (by omega)]
        refine XJ.round (i + 1) ⟨by omega, fun j hj => ?_⟩ (by omega) (by exact kEsub) (Takes.drop2 _ _ _)
        by_cases hji : j = i
        · subst hji; exact hc
        · exact hq j (by omega)
  · have hlen : rows.length ≠ us.length := by have := hne; simp only [bne_iff_ne, ne_eq] at this; omega
    refine kAuto ?_
    refine XJ.ret1 rfl rfl _ (Gives.refl _) ⟨?_, rfl⟩
    rw [decide_eq_false hlen]
    rfl

theorem task_equal_spec (w0 : World) (k : FuncId) (first cap : List Value) (A B : Option Addr) (c e : Nat) (rows : List (List Value)) (us : List Value) (pre : List HProp) (q : Nat → Bool) (ck : CallT Tryz.prog k) (hl : rows.length < 4611686018427387904) (hr : RowsB w0 8 A rows) (hone : ∀ r ∈ rows, r.all (·.oneCell') = true) (hu : RowsB w0 1 B (us.map fun u => [u]))
    (hf : ∀ i (hi : i < rows.length) (hj : i < us.length), Spec Tryz.prog w0 k (first ++ [Value.agg (rows[i]'hi).toArray, us[i]'hj] ++ cap).toArray pre (Ret (fun v N => v = .bool (q i) ∧ N = pre) noP)) :
    Spec Tryz.prog w0 59 #[.slice A rows.length c, .slice B us.length e, .func (.func k) first.toArray cap.toArray] pre (Ret (fun v N => v = .bool (decide (rows.length = us.length) && allI q rows.length) ∧ N = pre) noP) := by
  refine Spec.enter (args := [_, _, _]) Tryz.func59 rfl rfl rfl (fun F => ?_)
  refine kAuto ?_
  cases hne : ((rows.length : Int) != (us.length : Int))
  · have hlen : rows.length = us.length := by have := hne; simp only [bne_eq_false_iff_eq] at this; omega
    refine kAuto ?_
    refine CJ.loop (σ := Nat) (fun i => i ≤ rows.length ∧ ∀ j, j < i → q j = true) (fun i => [(17, .int .i64 (i : Int)), (15, .slice A rows.length c), (1, .slice B us.length e), (2, .func (.func k) first.toArray cap.toArray), (16, .int .i64 (rows.length : Int))]) (fun _ => pre ++ F) (fun i => rows.length - i) 0 ⟨Nat.zero_le _, fun j hj => by omega⟩ (by exact kEsub) (Gives.refl _) ?_
    intro i ⟨hi, hq⟩
    refine kAuto ?_
    cases hlt : decide ((i : Int) < (rows.length : Int))
    · have hge : i = rows.length := by have := of_decide_eq_false hlt; omega
      refine kAuto ?_
      refine XJ.ret1 rfl rfl _ (Gives.refl _) ⟨?_, rfl⟩
      rw [allI_true q rows.length (fun j hj => hq j (by omega)), decide_eq_true hlen]
      rfl
    · have hlt' : i < rows.length := by have := of_decide_eq_true hlt; omega
      obtain ⟨b, o, rfl, hrl, hbase⟩ := hr.at_ i hlt'
      have h1 := hone _ (List.getElem_mem hlt')
      have hf' := hf i hlt' (by omega)
      obtain ⟨b2, o2, rfl, hul, hbase2⟩ := hu.at_ i (by simpa using (by omega : i < us.length))
      simp only [List.getElem_map] at hbase2 hul
      generalize hrow : rows[i]'hlt' = row at hbase hrl h1 hf'
      generalize hus : us[i]'(by omega) = u at hbase2 hul hf'
      refine kAuto ?_
      apply RL.pur; (apply OpP.indexAddr; exact kEv; exact kEv; exact hlt'); exact rfl
      apply RL.pur; (apply OpP.loadA; exact kEv; exact HasAt.base hbase; exact hrl); exact rfl
      (apply RL.alloc; exact rfl; exact rfl; intro b3)
      refine kAuto ?_
      (apply RL.storeW; exact kEv; exact kEv; exact kTake; exact hrl; exact rfl; exact h1)
      refine kAuto ?_
      apply RL.pur; (apply OpP.indexAddr; exact kEv; exact kEv; exact hlen ▸ hlt'); exact rfl
      apply RL.pur; (apply OpP.load; exact kEv; exact HasAt.base hbase2); exact rfl
      refine kAuto ?_
      (apply RL.callK; exact kEv; exact ck; exact kEvl; exact (Takes.there1 (Takes.app _ _)); exact hf'; exact rfl)
      rintro _ _ ⟨rfl, rfl⟩
      refine kAuto ?_
      cases hc : q i
      · refine kAuto ?_
        refine XJ.ret1 rfl rfl _ (Takes.drop2 _ _ _) ⟨?_, rfl⟩
        rw [allI_false q rows.length i hlt' hc, Bool.and_false]
      · refine kAuto ?_
        rw [i64_succ i (by omega)]
        refine XJ.round (i + 1) ⟨by omega, fun j hj => ?_⟩ (by omega) (by exact kEsub) (Takes.drop2 _ _ _)
        by_cases hji : j = i
        · subst hji; exact hc
        · exact hq j (by omega)
  · have hlen : rows.length ≠ us.length := by have := hne; simp only [bne_iff_ne, ne_eq] at this; omega
    refine kAuto ?_
    refine XJ.ret1 rfl rfl _ (Gives.refl _) ⟨?_, rfl⟩
    rw [decide_eq_false hlen]
    rfl

theorem arr_equal_spec (w0 : World) (k : FuncId) (first cap : List Value) (A B : Option Addr) (c e : Nat) (rows : List (List Value)) (us : List Value) (pre : List HProp) (q : Nat → Bool) (ck : CallT Tryz.prog k) (hl : rows.length < 4611686018427387904) (hr : RowsB w0 2 A rows) (hone : ∀ r ∈ rows, r.all (·.oneCell') = true) (hu : RowsB w0 1 B (us.map fun u => [u]))
    (hf : ∀ i (hi : i < rows.length) (hj : i < us.length), Spec Tryz.prog w0 k (first ++ [Value.agg (rows[i]'hi).toArray, us[i]'hj] ++ cap).toArray pre (Ret (fun v N => v = .bool (q i) ∧ N = pre) noP)) :
    Spec Tryz.prog w0 94 #[.slice A rows.length c, .slice B us.length e, .func (.func k) first.toArray cap.toArray] pre (Ret (fun v N => v = .bool (decide (rows.length = us.length) && allI q rows.length) ∧ N = pre) noP) := by
  refine Spec.enter (args := [_, _, _]) Tryz.func94 rfl rfl rfl (fun F => ?_)
  refine kAuto ?_
  cases hne : ((rows.length : Int) != (us.length : Int))
  · have hlen : rows.length = us.length := by have := hne; simp only [bne_eq_false_iff_eq] at this; omega
    refine kAuto ?_
    refine CJ.loop (σ := Nat) (fun i => i ≤ rows.length ∧ ∀ j, j < i → q j = true) (fun i => [(17, .int .i64 (i : Int)), (15, .slice A rows.length c), (1, .slice B us.length e), (2, .func (.func k) first.toArray cap.toArray), (16, .int .i64 (rows.length : Int))]) (fun _ => pre ++ F) (fun i => rows.length - i) 0 ⟨Nat.zero_le _, fun j hj => by omega⟩ (by exact kEsub) (Gives.refl _) ?_
    intro i ⟨hi, hq⟩
    refine kAuto ?_
    cases hlt : decide ((i : Int) < (rows.length : Int))
    · have hge : i = rows.length := by have := of_decide_eq_false hlt; omega
      refine kAuto ?_
      refine XJ.ret1 rfl rfl _ (Gives.refl _) ⟨?_, rfl⟩
      rw [allI_true q rows.length (fun j hj => hq j (by omega)), decide_eq_true hlen]
      rfl
    · have hlt' : i < rows.length := by have := of_decide_eq_true hlt; omega
      obtain ⟨b, o, rfl, hrl, hbase⟩ := hr.at_ i hlt'
      have h1 := hone _ (List.getElem_mem hlt')
      have hf' := hf i hlt' (by omega)
      obtain ⟨b2, o2, rfl, hul, hbase2⟩ := hu.at_ i (by simpa using (by omega : i < us.length))
      simp only [List.getElem_map] at hbase2 hul
      generalize hrow : rows[i]'hlt' = row at hbase hrl h1 hf'
      generalize hus : us[i]'(by omega) = u at hbase2 hul hf'
      refine kAuto ?_
      apply RL.pur; (apply OpP.indexAddr; exact kEv; exact kEv; exact hlt'); exact rfl
      apply RL.pur; (apply OpP.loadA; exact kEv; exact HasAt.base hbase; exact hrl); exact rfl
      (apply RL.alloc; exact rfl; exact rfl; intro b3)
      refine kAuto ?_
      (apply RL.storeW; exact kEv; exact kEv; exact kTake; exact hrl; exact rfl; exact h1)
      refine kAuto ?_
      apply RL.pur; (apply OpP.indexAddr; exact kEv; exact kEv; exact hlen ▸ hlt'); exact rfl
      apply RL.pur; (apply OpP.load; exact kEv; exact HasAt.base hbase2); exact rfl
      refine kAuto ?_
      (apply RL.callK; exact kEv; exact ck; exact kEvl; exact (Takes.there1 (Takes.app _ _)); exact hf'; exact rfl)
      rintro _ _ ⟨rfl, rfl⟩
      refine kAuto ?_
      cases hc : q i
      · refine kAuto ?_
        refine XJ.ret1 rfl rfl _ (Takes.drop2 _ _ _) ⟨?_, rfl⟩
        rw [allI_false q rows.length i hlt' hc, Bool.and_false]
      · refine kAuto ?_
        rw [i64_succ i (by omega)]
        refine XJ.round (i + 1) ⟨by omega, fun j hj => ?_⟩ (by omega) (by exact kEsub) (Takes.drop2 _ _ _)
        by_cases hji : j = i
        · subst hji; exact hc
        · exact hq j (by omega)
  · have hlen : rows.length ≠ us.length := by have := hne; simp only [bne_iff_ne, ne_eq] at this; omega
    refine kAuto ?_
    refine XJ.ret1 rfl rfl _ (Gives.refl _) ⟨?_, rfl⟩
    rw [decide_eq_false hlen]
    rfl
end Go.Proofs.YtgmapenlgammfaaGreatDoor

/- The package ast: the forms of nodes, which trees are valid, and a tree's numbers. -/
namespace Go.Proofs.YtgmapenlgammfaaGreatDoor
open Go

structure Form where
  is : Int
  name : Bool
  low : Int
  high : Int
  kids : List Int
/-- The form of a kind. -/
def formOf (k : Int) : Option Form :=
  if k = 46 then some ⟨4, true, 0, 0, [8]⟩
  else if k = 45 then some ⟨4, false, 0, 7, [1]⟩
  else if k = 44 then some ⟨4, false, 0, 7, [2]⟩
  else if k = 43 then some ⟨4, false, 1, 1000, [1, 8]⟩
  else if k = 42 then some ⟨4, true, 1, 1000, [8]⟩
  else if k = 41 then some ⟨4, false, 0, 0, [1, 8, 8]⟩
  else if k = 40 then some ⟨4, false, 0, 0, [2, 1]⟩
  else if k = 5 then some ⟨1, false, 0, 0, [1]⟩
  else if k = 4 then some ⟨1, false, 0, 0, [1]⟩
  else if k = 3 then some ⟨3, true, 0, 0, [1]⟩
  else if k = 2 then some ⟨3, true, 0, 0, []⟩
  else if k = 1 then some ⟨1, false, 0, 2147483647, []⟩
  else if 6 ≤ k ∧ k ≤ 23 then some ⟨1, false, 0, 0, [1, 1]⟩
  else none
def catV (l : List Int) : List Value := l.map (Value.int .u8)
/-- The value of a form. -/
def FormIs (w : World) (f : Form) (v : Value) : Prop :=
  ∃ B, v = .agg #[.int .u8 f.is, .bool f.name, .int .i64 f.low, .int .i64 f.high, .slice B f.kids.length f.kids.length] ∧ RowsB w 1 B ((catV f.kids).map fun u => [u])
def FormAt (w : World) (k : Int) (o : Option Value) : Prop := match formOf k with
  | none => o = none
  | some f => ∃ v, o = some v ∧ FormIs w f v
/-- The map of forms in the base. -/
def FormsAt (w : World) (r : Nat) : Prop := ∃ es clk m, w.heap[r]? = some (.map es clk) ∧ MapIs (Value.int .u8) es m ∧ ∀ k, FormAt w k (m k)
def FormTo (w : World) (D : List Int) (m : Int → Option Value) : Prop := ∀ k, if k ∈ D then FormAt w k (m k) else m k = none
theorem FormTo.nil (w : World) : FormTo w [] (fun _ => none) := fun k => by simp
theorem FormTo.step {w : World} {D : List Int} {m : Int → Option Value} (h : FormTo w D m) {k : Int} {f : Form} {v : Value} (hf : formOf k = some f) (hv : FormIs w f v) : FormTo w (k :: D) (upd m k v) := by
  intro j
  by_cases hj : j = k
  · subst hj
    simp only [List.mem_cons, true_or, if_true, FormAt, hf, upd]
    exact ⟨v, rfl, hv⟩
  · have := h j
    simp only [List.mem_cons, hj, false_or, upd, if_false]
    exact this
attribute [local semireducible] Takes pt Base in
theorem cel_rows {w0 w : World} {h : Frag} {b T : Nat} {cs : List Value} {M M' : List HProp} (t : Takes M [cel b T cs] M') (m : star M h) (s : Sat w0 w h) : RowsB w 1 (some ⟨b, 0, none⟩) (cs.map fun u => [u]) := by
  intro i r e
  have hb := s.pt (t h m)
  rw [List.getElem?_map] at e
  obtain ⟨v, hv, rfl⟩ := Option.map_eq_some_iff.1 e
  refine ⟨b, 0, rfl, rfl, ?_⟩
  intro j u hu
  rcases j with _ | j
  · simp at hu
    subst hu
    simp [World.cell?, hb, hv]
  · simp at hu
theorem rows_nil {w : World} {n : Nat} : RowsB w n none (([] : List Value).map fun u => [u]) := by
  intro i r e
  simp at e
attribute [local semireducible] Takes Gives mp in
theorem FormsAt.of {w0 w : World} {h : Frag} {r : Nat} {m : Int → Option Value} {N : List HProp} (t : star (mp (Value.int .u8) r m :: N) h) (s : Sat w0 w h) (k : ∀ j, FormAt w j (m j)) : FormsAt w r := by
  obtain ⟨h1, h2, l1, l2, dd, ⟨es, clk, a, mi⟩, m2⟩ := t
  exact ⟨es, clk, m, (s.own r _ (l1 r _ a)).2, mi, k⟩

def formBase : List Int := [46, 45, 44, 43, 42, 41, 40, 5, 4, 3, 2, 1]
theorem forms_spec (w0 : World) : Spec Tryz.prog w0 71 #[] [] (Ret (fun v N => ∃ r, v = .map (some r) ∧ ∀ w h, star N h → Sat w0 w h → FormsAt w r) noP) := by
  refine Spec.enter (args := []) Tryz.func71 rfl rfl rfl (fun F => ?_)
  refine kAuto ?_
  refine RL.makeMap rfl (Value.int .u8) (fun r => ?_)
  refine kAuto ?_
  (apply RL.insert; exact kEv; exact kEv; exact kEv; exact kTake)
  refine kAuto ?_
  (apply RL.insert; exact kEv; exact kEv; exact kEv; exact kTake)
  (apply RL.buildSlice; exact rfl; exact kEvl; exact rfl; (intro w; kernel_rfl); exact rfl; intro b1)
  refine kAuto ?_
  (apply RL.insert; exact kEv; exact kEv; exact kEv; exact kTake)
  (apply RL.buildSlice; exact rfl; exact kEvl; exact rfl; (intro w; kernel_rfl); exact rfl; intro b2)
  refine kAuto ?_
  (apply RL.insert; exact kEv; exact kEv; exact kEv; exact kTake)
  (apply RL.buildSlice; exact rfl; exact kEvl; exact rfl; (intro w; kernel_rfl); exact rfl; intro b3)
  refine kAuto ?_
  (apply RL.insert; exact kEv; exact kEv; exact kEv; exact kTake)
  (apply RL.buildSlice; exact rfl; exact kEvl; exact rfl; (intro w; kernel_rfl); exact rfl; intro b4)
  refine kAuto ?_
  (apply RL.insert; exact kEv; exact kEv; exact kEv; exact kTake)
  (apply RL.buildSlice; exact rfl; exact kEvl; exact rfl; (intro w; kernel_rfl); exact rfl; intro b5)
  refine kAuto ?_
  (apply RL.insert; exact kEv; exact kEv; exact kEv; exact kTake)
  (apply RL.buildSlice; exact rfl; exact kEvl; exact rfl; (intro w; kernel_rfl); exact rfl; intro b6)
  refine kAuto ?_
  (apply RL.insert; exact kEv; exact kEv; exact kEv; exact kTake)
  (apply RL.buildSlice; exact rfl; exact kEvl; exact rfl; (intro w; kernel_rfl); exact rfl; intro b7)
  refine kAuto ?_
  (apply RL.insert; exact kEv; exact kEv; exact kEv; exact kTake)
  (apply RL.buildSlice; exact rfl; exact kEvl; exact rfl; (intro w; kernel_rfl); exact rfl; intro b8)
  refine kAuto ?_
  (apply RL.insert; exact kEv; exact kEv; exact kEv; exact kTake)
  (apply RL.buildSlice; exact rfl; exact kEvl; exact rfl; (intro w; kernel_rfl); exact rfl; intro b9)
  refine kAuto ?_
  (apply RL.insert; exact kEv; exact kEv; exact kEv; exact kTake)
  (apply RL.buildSlice; exact rfl; exact kEvl; exact rfl; (intro w; kernel_rfl); exact rfl; intro b10)
  refine kAuto ?_
  (apply RL.insert; exact kEv; exact kEv; exact kEv; exact kTake)
  refine kAuto ?_
  refine CJ.loop (σ := Nat × (Int → Option Value) × List HProp) (fun s => 6 ≤ s.1 ∧ s.1 ≤ 24 ∧ ∃ D : List Int, (∀ j : Int, j ∈ D ↔ (j ∈ formBase ∨ (6 ≤ j ∧ j < (s.1 : Int)))) ∧ ∀ w h, star s.2.2 h → Sat w0 w h → FormTo w D s.2.1)
    (fun s => [(2, .int .u8 (s.1 : Int)), (1, .map (some r))]) (fun s => mp (Value.int .u8) r s.2.1 :: (s.2.2 ++ F)) (fun s => 24 - s.1) (6, _, [_, _, _, _, _, _, _, _, _, _]) ⟨by omega, by omega, formBase, fun j => by simp; omega, ?_⟩ (by exact kEsub) (Gives.refl _) ?_
  · intro w h m s
    refine (((((((((((((FormTo.nil w).step (k := 1) rfl ⟨none, rfl, rows_nil⟩).step (k := 2) rfl ⟨none, rfl, rows_nil⟩).step (k := 3) rfl ⟨_, rfl, ?_⟩).step (k := 4) rfl ⟨_, rfl, ?_⟩).step (k := 5) rfl ⟨_, rfl, ?_⟩).step (k := 40) rfl ⟨_, rfl, ?_⟩).step (k := 41) rfl ⟨_, rfl, ?_⟩).step (k := 42) rfl ⟨_, rfl, ?_⟩).step (k := 43) rfl ⟨_, rfl, ?_⟩).step (k := 44) rfl ⟨_, rfl, ?_⟩).step (k := 45) rfl ⟨_, rfl, ?_⟩).step (k := 46) rfl ⟨_, rfl, ?_⟩)
    all_goals exact cel_rows (by exact kTake) m s
  rintro ⟨k, m, N⟩ ⟨h6, h24, D, hD, hN⟩
  simp only at h6 h24 hD hN
  refine kAuto ?_
  cases hlt : decide ((k : Int) ≤ 23)
  · have hk : k = 24 := by have := of_decide_eq_false hlt; omega
    subst hk
    refine kAuto ?_
    refine XJ.ret1 rfl rfl (mp (Value.int .u8) r m :: N) (Gives.refl _) ⟨r, rfl, fun w h t s => FormsAt.of t s ?_⟩
    have ht := hN w h t.tail s
    intro j
    by_cases hj : j ∈ D
    · have := ht j
      rw [if_pos hj] at this
      exact this
    · have h1 := ht j
      rw [if_neg hj] at h1
      have h2 := (not_congr (hD j)).1 hj
      simp only [formBase, List.mem_cons, List.not_mem_nil, or_false, not_or] at h2
      obtain ⟨⟨e1, e2, e3, e4, e5, e6, e7, e8, e9, e10, e11, e12⟩, e13⟩ := h2
      have : formOf j = none := by
        unfold formOf
        rw [if_neg e1, if_neg e2, if_neg e3, if_neg e4, if_neg e5, if_neg e6, if_neg e7, if_neg e8, if_neg e9, if_neg e10, if_neg e11, if_neg e12, if_neg (by omega)]
      unfold FormAt
      rw [this]
      exact h1
  · have hk : k ≤ 23 := by have := of_decide_eq_true hlt; omega
    refine kAuto ?_
    (apply RL.buildSlice; exact rfl; exact kEvl; exact rfl; (intro w; kernel_rfl); exact rfl; intro b)
    refine kAuto ?_
    (apply RL.mapUpdate; exact kEv; exact kEv; exact kEv; exact kTake)
    refine kAuto ?_
    have hw : IntKind.u8.wrap ((k : Int) + 1) = ((k + 1 : Nat) : Int) := by simp only [IntKind.wrap, IntKind.signed, IntKind.bits]; simp; omega
    rw [hw]
    refine XJ.round (k + 1, _, cel b _ _ :: N) ⟨by simp only; omega, by simp only; omega, (k : Int) :: D, fun j => ?_, fun w h m s => ?_⟩ (by simp only; omega) (by exact kEsub) (Gives.refl _)
    · simp only [List.mem_cons, hD]
      constructor
      · rintro (h | h | h)
        · exact .inr (by omega)
        · exact .inl h
        · exact .inr (by omega)
      · rintro (h | h)
        · exact .inr (.inl h)
        · rcases Int.lt_or_le j k with h' | h'
          · exact .inr (.inr (by omega))
          · exact .inl (by omega)
    · refine (hN w h m.tail s).step (k := (k : Int)) (f := ⟨1, false, 0, 0, [1, 1]⟩) ?_ ⟨_, rfl, cel_rows (Takes.here _ _) m s⟩
      unfold formOf
      rw [if_neg (by omega), if_neg (by omega), if_neg (by omega), if_neg (by omega), if_neg (by omega), if_neg (by omega), if_neg (by omega), if_neg (by omega), if_neg (by omega), if_neg (by omega), if_neg (by omega), if_neg (by omega), if_pos (by omega)]
end Go.Proofs.YtgmapenlgammfaaGreatDoor

/- The package ast: which trees belong to a category, and a tree's numbers. -/
namespace Go.Proofs.YtgmapenlgammfaaGreatDoor
open Go

mutual
/-- Whether a tree belongs to a category. -/
def isB : Node → Int → Bool
  | .mk k n s kids, want =>
    if k = 47 then (bitAnd .u8 want 8 != 0) && n == 0 && decide (s = ⟨#[]⟩) && stmtsB kids
    else match formOf k with
      | none => false
      | some f => !(bitAnd .u8 f.is want == 0) && !decide (n < f.low) && !decide (n > f.high) && !(f.name && !nameB s) && !(!f.name && !decide (s = ⟨#[]⟩)) && kidsB kids f.kids
def stmtsB : List Node → Bool
  | [] => true
  | n :: r => isB n 4 && stmtsB r
def kidsB : List Node → List Int → Bool
  | [], [] => true
  | n :: r, c :: cs => isB n c && kidsB r cs
  | _, _ => false
end
theorem anyI_iff (q : Nat → Bool) (n : Nat) : anyI q n = true ↔ ∃ i, i < n ∧ q i = true := by
  unfold anyI
  rw [List.any_eq_true]
  constructor
  · rintro ⟨x, h1, h2⟩; exact ⟨x, by simpa using h1, h2⟩
  · rintro ⟨x, h1, h2⟩; exact ⟨x, by simpa using h1, h2⟩
theorem allI_iff (q : Nat → Bool) (n : Nat) : allI q n = true ↔ ∀ i, i < n → q i = true := by
  unfold allI
  rw [List.all_eq_true]
  exact ⟨fun h i hi => h i (by simpa using hi), fun h i hi => h i (by simpa using hi)⟩
theorem anyI_list {α : Type} (l : List α) (p : α → Bool) (d : α) : anyI (fun i => p (l.getD i d)) l.length = l.any p := by
  rw [Bool.eq_iff_iff, anyI_iff, List.any_eq_true]
  constructor
  · rintro ⟨i, hi, h⟩
    rw [List.getD_eq_getElem?_getD, List.getElem?_eq_getElem hi] at h
    exact ⟨l[i], List.getElem_mem hi, h⟩
  · rintro ⟨x, hx, h⟩
    obtain ⟨i, hi, rfl⟩ := List.mem_iff_getElem.1 hx
    exact ⟨i, hi, by simpa [List.getD_eq_getElem?_getD, List.getElem?_eq_getElem hi] using h⟩
theorem allI_list {α : Type} (l : List α) (p : α → Bool) (d : α) : allI (fun i => p (l.getD i d)) l.length = l.all p := by
  rw [Bool.eq_iff_iff, allI_iff, List.all_eq_true]
  constructor
  · intro h x hx
    obtain ⟨i, hi, rfl⟩ := List.mem_iff_getElem.1 hx
    have := h i hi
    rwa [List.getD_eq_getElem?_getD, List.getElem?_eq_getElem hi] at this
  · intro h i hi
    simp only [List.getD_eq_getElem?_getD, List.getElem?_eq_getElem hi, Option.getD_some]
    exact h _ (List.getElem_mem hi)
def node0 : Node := .mk 0 0 ⟨#[]⟩ []
theorem stmtsB_all (l : List Node) : stmtsB l = l.all (isB · 4) := by
  induction l with
  | nil => simp [stmtsB]
  | cons n r ih => simp [stmtsB, ih]
theorem kidsB_eq (l : List Node) : ∀ cs : List Int, kidsB l cs = (decide (l.length = cs.length) && allI (fun i => isB (l.getD i node0) (cs.getD i 0)) l.length) := by
  induction l with
  | nil => intro cs; cases cs <;> simp [kidsB, allI]
  | cons n r ih =>
    intro cs
    cases cs with
    | nil => simp [kidsB]
    | cons c cs =>
      rw [kidsB, ih cs, Bool.eq_iff_iff]
      simp only [Bool.and_eq_true, allI_iff, decide_eq_true_eq, List.length_cons]
      constructor
      · rintro ⟨h1, h2, h3⟩
        refine ⟨by omega, ?_⟩
        intro i hi
        rcases i with _ | i
        · simpa using h1
        · simpa using h3 i (by omega)
      · rintro ⟨h1, h2⟩
        refine ⟨by simpa using h2 0 (by omega), by omega, ?_⟩
        intro i hi
        simpa using h2 (i + 1) (by omega)

section
attribute [local semireducible] HasMap
theorem HasMap.base {w0 : World} {M : List HProp} {κ : Type} [DecidableEq κ] {enc : κ → Value} {r : Nat} {m : κ → Option Value} {es : Array MapEntry} {clk : Nat} (h : w0.heap[r]? = some (.map es clk)) (k : MapIs enc es m) : HasMap w0 M enc r m := fun w _ _ s => by
  refine ⟨es, clk, ?_, k⟩
  rw [s.base r (Array.getElem?_eq_some_iff.1 h).1]
  exact h
end
section
variable {P : Program} {w0 : World} {L : Env} {M : List HProp} {d : Option Tmp} {T : TypeId} {p : String} {af : Array Edge} {g : Option (Nat × Bool)}
variable {κ : Type} [DecidableEq κ] {enc : κ → Value}
theorem OpP.lookupSome {t : TypeId} {K E : Nat} {z : Value} {x i : Operand} [q : MapT P t K E] [k : KeyT P K κ enc] [zz : ZeroT P E z] {r : Nat} {m : κ → Option Value} {y : κ} {v : Value} (hx : Ev L x (.map (some r))) (hi : Ev L i (enc y)) (hm : HasMap w0 M enc r m) (hv : m y = some v) :
    OpP P w0 L M ⟨d, .lookup t x i true, T, p, af, g⟩ (.tuple #[v, .bool true]) := by
  have := OpP.lookupOk (P := P) (t := t) (z := z) (d := d) (T := T) (p := p) (af := af) (g := g) hx hi hm
  rw [hv] at this
  exact this
theorem OpP.lookupNone {t : TypeId} {K E : Nat} {z : Value} {x i : Operand} [q : MapT P t K E] [k : KeyT P K κ enc] [zz : ZeroT P E z] {r : Nat} {m : κ → Option Value} {y : κ} (hx : Ev L x (.map (some r))) (hi : Ev L i (enc y)) (hm : HasMap w0 M enc r m) (hv : m y = none) :
    OpP P w0 L M ⟨d, .lookup t x i true, T, p, af, g⟩ (.tuple #[z, .bool false]) := by
  have := OpP.lookupOk (P := P) (t := t) (z := z) (d := d) (T := T) (p := p) (af := af) (g := g) hx hi hm
  rw [hv] at this
  exact this
end

theorem is1_spec (w0 : World) (r : Nat) (b : Nat) (cs : List Value) (q : Bool) (hlen : cs.length = 4)
    (h : Spec Tryz.prog w0 72 #[.map (some r), .agg cs.toArray, .int .u8 4] [] (Is (.bool q))) :
    Spec Tryz.prog w0 105 #[.agg cs.toArray, .pointer (some ⟨b, 0, none⟩)] [cel b 143 [.map (some r)]] (Ret (fun v N => v = .bool (!q) ∧ N = [cel b 143 [.map (some r)]]) noP) := by
  refine Spec.enter (args := [_, _]) Tryz.func105 rfl rfl rfl (fun F => ?_)
  refine kAuto ?_
  (apply RL.boxR; exact kEv; exact rfl; intro b2)
  refine kAuto ?_
  (apply RL.callIs; exact kEv; exact inferInstance; exact kEvl; exact h; exact rfl)
  cases q <;> refine kAuto ?_ <;> exact XJ.ret1 rfl rfl [_] (by exact kGives) ⟨rfl, rfl⟩

theorem is_spec (w0 : World) (hT : Tab w0) (r : Nat) (hF : FormsAt w0 r) : ∀ (m : Nat) (n : Node) (cs : List Value) (want : Int), n.size ≤ m → n.size < 4611686018427387904 → NodeR w0 n cs →
    Spec Tryz.prog w0 72 #[.map (some r), .agg cs.toArray, .int .u8 want] [] (Is (.bool (isB n want))) := by
  intro m
  induction m with
  | zero => intro n cs want h; have := n.size_pos; omega
  | succ m ih =>
    intro n cs want hm hs hR
    obtain ⟨A, cap, rows, rfl, hc, hl, hb, hk⟩ := hR.open
    obtain ⟨kd, num, nm, kids⟩ := n
    simp only [Node.kind, Node.num, Node.name, Node.kids] at *
    have hkl : kids.length < 4611686018427387904 := by have := Node.kids_le (.mk kd num nm kids); simp only [Node.kids] at this; omega
    have hkid : ∀ i (hi : i < kids.length) (want : Int), Spec Tryz.prog w0 72 #[.map (some r), .agg ((rows[i]'(by omega)).toArray), .int .u8 want] [] (Is (.bool (isB kids[i] want))) := by
      intro i hi want
      have hlt := Node.size_kid (n := .mk kd num nm kids) (m := kids[i]) (List.getElem_mem hi)
      exact ih _ _ want (by omega) (by omega) (hk i _ _ (by simp [hi]) (by simp [show i < rows.length by omega]))
    obtain ⟨es, clk, mm, hmap, hmi, hform⟩ := hF
    have hHM : ∀ M, HasMap w0 M (Value.int .u8) r mm := fun M => HasMap.base hmap hmi
    have hcall := fun b3 => node_contains_spec w0 105 [] [.pointer (some ⟨b3, 0, none⟩)] A cap rows [cel b3 143 [.map (some r)]] (fun i => !isB (kids.getD i node0) 4) inferInstance (by omega) hb (fun i hi => by
      rw [show kids.getD i node0 = kids[i]'(by omega) by simp [List.getD_eq_getElem?_getD, show i < kids.length by omega]]
      exact is1_spec w0 r b3 _ _ (hb.at_ i hi).choose_spec.choose_spec.2.1 (hkid i (by omega) 4))
    refine Spec.enter (args := [_, _, _]) Tryz.func72 rfl rfl rfl (fun F => ?_)
    refine kAuto ?_
    (apply RL.box1; exact kEv; exact rfl; exact rfl; intro b3)
    refine kAuto ?_
    (apply RL.boxR; exact kEv; exact rfl; intro b4)
    refine kAuto ?_
    (refine CJ.cond (by exact kEv) (fun h => ?_) (fun h => ?_))
    · obtain rfl : kd = 47 := by simpa using h
      have hB : isB (.mk 47 num nm kids) want = ((bitAnd .u8 want 8 != 0) && num == 0 && decide (nm = ⟨#[]⟩) && stmtsB kids) := by simp [isB]
      refine kAuto ?_
      cases h1 : (bitAnd .u8 want 8 != 0)
      · refine kAuto ?_
        refine XJ.ret1 rfl rfl [] (by exact kGives) ⟨?_, rfl⟩
        rw [hB, h1]; rfl
      refine kAuto ?_
      cases h2 : num == 0
      · refine kAuto ?_
        refine XJ.ret1 rfl rfl [] (by exact kGives) ⟨?_, rfl⟩
        rw [hB, h1, h2]; rfl
      refine kAuto ?_
      cases h3 : decide (nm = ⟨#[]⟩)
      · refine kAuto ?_
        refine XJ.ret1 rfl rfl [] (by exact kGives) ⟨?_, rfl⟩
        rw [hB, h1, h2, h3]; rfl
      refine kAuto ?_
      rw [← hl]
      (apply RL.callK; exact kEv; exact inferInstance; exact kEvl; exact (Takes.there (Takes.here _ _)); exact hcall b3; exact rfl)
      rintro _ _ ⟨rfl, rfl⟩
      refine kAuto ?_
      have hst : stmtsB kids = !(anyI (fun i => !isB (kids.getD i node0) 4) rows.length) := by
        rw [stmtsB_all, hl, anyI_list kids (fun n => !isB n 4) node0, List.not_any_eq_all_not]
        simp
      cases h4 : anyI (fun i => !isB (kids.getD i node0) 4) rows.length
      · refine kAuto ?_
        refine XJ.ret1 rfl rfl [] (by exact kGives) ⟨?_, rfl⟩
        rw [hB, h1, h2, h3, hst, h4]; rfl
      · refine kAuto ?_
        refine XJ.ret1 rfl rfl [] (by exact kGives) ⟨?_, rfl⟩
        rw [hB, h1, h2, h3, hst, h4]; rfl
    · have h47 : ¬ kd = 47 := by simpa using h
      refine kAuto ?_
      cases hf : formOf kd with
      | none =>
        have hv : mm kd = none := by have := hform kd; unfold FormAt at this; rw [hf] at this; exact this
        have hB : isB (.mk kd num nm kids) want = false := by simp [isB, h47, hf]
        apply RL.pur; (apply OpP.lookupNone; exact kEv; exact kEv; exact hHM _; exact hv); exact rfl
        refine kAuto ?_
        (apply RL.alloc; exact rfl; exact rfl; intro b7)
        (apply RL.storeA; exact kEv; exact kEv; exact kTake; exact rfl; exact rfl; exact rfl)
        refine kAuto ?_
        --DBG
        refine XJ.ret1 rfl rfl [] (by exact kGives) ⟨?_, rfl⟩
        rw [hB]
      | some f =>
        obtain ⟨v, hv, B, rfl, hrows⟩ : ∃ v, mm kd = some v ∧ FormIs w0 f v := by have := hform kd; unfold FormAt at this; rw [hf] at this; exact this
        have hB : isB (.mk kd num nm kids) want = (!(bitAnd .u8 f.is want == 0) && !decide (num < f.low) && !decide (num > f.high) && !(f.name && !nameB nm) && !(!f.name && !decide (nm = ⟨#[]⟩)) && kidsB kids f.kids) := by simp [isB, h47, hf]
        apply RL.pur; (apply OpP.lookupSome; exact kEv; exact kEv; exact hHM _; exact hv); exact rfl
        refine kAuto ?_
        (apply RL.alloc; exact rfl; exact rfl; intro b7)
        (apply RL.storeA; exact kEv; exact kEv; exact kTake; exact rfl; exact rfl; exact rfl)
        refine kAuto ?_
        have hE := node_equal_spec w0 72 [.map (some r)] [] A B cap f.kids.length rows (catV f.kids) [] (fun i => isB (kids.getD i node0) (f.kids.getD i 0)) inferInstance (by omega) hb (fun row hrow => by
          obtain ⟨i, hi, rfl⟩ := List.mem_iff_getElem.1 hrow
          obtain ⟨A', c', e, _⟩ := (hk i (kids[i]'(by omega)) (rows[i]'hi) (by simp [show i < kids.length by omega]) (by simp [hi])).kids
          rw [e]; rfl) hrows (fun i hi hj => by
          have hj' : i < f.kids.length := by simpa [catV] using hj
          rw [show kids.getD i node0 = kids[i]'(by omega) by simp [List.getD_eq_getElem?_getD, show i < kids.length by omega], show f.kids.getD i 0 = f.kids[i]'hj' by simp [List.getD_eq_getElem?_getD, hj'], show (catV f.kids)[i]'hj = .int .u8 (f.kids[i]'hj') by simp [catV]]
          exact hkid i (by omega) _)
        rw [show (catV f.kids).length = f.kids.length by simp [catV]] at hE
        cases h1 : (bitAnd .u8 f.is want == 0)
        case true =>
          refine kAuto ?_
          refine XJ.ret1 rfl rfl [] (by exact kGives) ⟨?_, rfl⟩
          rw [hB, h1]; rfl
        refine kAuto ?_
        cases h2 : decide (num < f.low)
        case true =>
          refine kAuto ?_
          refine XJ.ret1 rfl rfl [] (by exact kGives) ⟨?_, rfl⟩
          rw [hB, h1, h2]; rfl
        refine kAuto ?_
        cases h3 : decide (num > f.high)
        case true =>
          refine kAuto ?_
          refine XJ.ret1 rfl rfl [] (by exact kGives) ⟨?_, rfl⟩
          rw [hB, h1, h2, h3]; rfl
        refine kAuto ?_
        have hfin : ∀ {L : Env}, nameB nm = true ∧ f.name = true ∨ f.name = false ∧ decide (nm = ⟨#[]⟩) = true → isB (.mk kd num nm kids) want = (decide (rows.length = f.kids.length) && allI (fun i => isB (kids.getD i node0) (f.kids.getD i 0)) rows.length) := by
          intro _ hh
          rw [hB, h1, h2, h3, kidsB_eq, ← hl]
          rcases hh with ⟨e1, e2⟩ | ⟨e1, e2⟩ <;> rw [e1, e2] <;> simp
        cases h4 : f.name
        · refine kAuto ?_
          cases h5 : decide (nm = ⟨#[]⟩)
          · refine kAuto ?_
            refine XJ.ret1 rfl rfl [] (by exact kGives) ⟨?_, rfl⟩
            rw [hB, h1, h2, h3, h4, h5]; rfl
          · refine kAuto ?_
            rw [← hl]
            (apply RL.callK; exact kEv; exact inferInstance; exact kEvl; exact (Takes.nil _); exact hE; exact rfl)
            rintro _ _ ⟨rfl, rfl⟩
            refine kAuto ?_
            refine XJ.ret1 rfl rfl [] (by exact kGives) ⟨?_, rfl⟩
            rw [hfin (L := []) (.inr ⟨h4, h5⟩)]
        · refine kAuto ?_
          (apply RL.callIs; exact kEv; exact inferInstance; exact kEvl; exact name_spec w0 hT nm; exact rfl)
          cases h5 : nameB nm
          · refine kAuto ?_
            refine XJ.ret1 rfl rfl [] (by exact kGives) ⟨?_, rfl⟩
            rw [hB, h1, h2, h3, h4, h5]; rfl
          · refine kAuto ?_
            rw [← hl]
            (apply RL.callK; exact kEv; exact inferInstance; exact kEvl; exact (Takes.nil _); exact hE; exact rfl)
            rintro _ _ ⟨rfl, rfl⟩
            refine kAuto ?_
            refine XJ.ret1 rfl rfl [] (by exact kGives) ⟨?_, rfl⟩
            rw [hfin (L := []) (.inl ⟨h5, h4⟩)]
end Go.Proofs.YtgmapenlgammfaaGreatDoor

/- The package ast: the tests on whole trees, and a tree's numbers. -/
namespace Go.Proofs.YtgmapenlgammfaaGreatDoor
open Go

theorem dom_of {L : Env} {n : Nat} (h : (L.all fun p => Nat.blt p.1 n) = true) : ∀ t v, L.get t = some v → t < n := by
  induction L with
  | nil => intro t v e; cases e
  | cons p r ih =>
    obtain ⟨k, u⟩ := p
    intro t v e
    simp only [List.all_cons, Bool.and_eq_true] at h
    simp only [Env.get] at e
    cases hb : Nat.beq k t with
    | true =>
      have := Nat.eq_of_beq_eq_true hb
      subst this
      simpa [Nat.blt_eq] using h.1
    | false => rw [hb] at e; exact ih h.2 t v (by simpa using e)
section
attribute [local semireducible] Gives Takes
theorem Gives.skipApp {N M X : List HProp} (k : Gives M X) : Gives (N ++ M) X := fun h s => by
  obtain ⟨h1, h2, l1, l2, _, _, m⟩ := s.split
  exact k h (m.mono l2)
end
theorem AJ.pur {P : Program} {w0 : World} {n : Nat} {ops : Array Oper} {Q : Exit → Act → World → Prop} {Mro : List HProp} {k : Nat} {D : List Nat} {L : Env} {M : List HProp}
    {i d : Nat} {op : Op} {T : TypeId} {p : String} {af : Array Edge} {gd : Option (Nat × Bool)} {v : Value} (ho : ops[i]? = some ⟨some d, op, T, p, af, gd⟩) (hik : Nat.blt i k = true) (hk : Nat.ble k ops.size = true) (hD : D.contains i = false) (hf : L.get d = none) (hd : Nat.blt d n = true)
    (hns : notSel ⟨some d, op, T, p, af, gd⟩ = true) (hlk : ((Oper.looksAt ops ⟨some d, op, T, p, af, gd⟩).all fun t => (L.get t).isSome) = true)
    (hw : wantedL ops L ⟨some d, op, T, p, af, gd⟩ = some true) (hrun : OpP P w0 L Mro ⟨some d, op, T, p, af, gd⟩ v)
    (kk : AJ P w0 n ops Q Mro k (i :: D) ((d, v) :: L) M) : AJ P w0 n ops Q Mro k D L M := AJ.step ho hik hk hD hf hd hns hlk (.inl ⟨hw, hrun⟩) kk
theorem kAj {P : Program} {w0 : World} {n : Nat} {ops : Array Oper} {Q : Exit → Act → World → Prop} {Mro : List HProp} {k : Nat} {D : List Nat} {L : Env} {M : List HProp}
    {d : Nat} {op : Op} {T : TypeId} {p : String} {af : Array Edge} {gd : Option (Nat × Bool)} {v : Value} (i : Nat) (kk : AJ P w0 n ops Q Mro k (i :: D) ((d, v) :: L) M)
    (ho : ops[i]? = some ⟨some d, op, T, p, af, gd⟩ := by exact rfl) (hik : Nat.blt i k = true := by exact rfl) (hk : Nat.ble k ops.size = true := by exact rfl) (hD : D.contains i = false := by exact rfl) (hf : L.get d = none := by exact rfl) (hd : Nat.blt d n = true := by exact rfl)
    (hns : notSel ⟨some d, op, T, p, af, gd⟩ = true := by exact rfl) (hlk : ((Oper.looksAt ops ⟨some d, op, T, p, af, gd⟩).all fun t => (L.get t).isSome) = true := by exact rfl)
    (hw : wantedL ops L ⟨some d, op, T, p, af, gd⟩ = some true := by exact rfl) (hrun : OpP P w0 L Mro ⟨some d, op, T, p, af, gd⟩ v := by exact kPure) : AJ P w0 n ops Q Mro k D L M := AJ.pur ho hik hk hD hf hd hns hlk hw hrun kk
theorem kAjS {P : Program} {w0 : World} {n : Nat} {ops : Array Oper} {Q : Exit → Act → World → Prop} {Mro : List HProp} {k : Nat} {D : List Nat} {L : Env} {M : List HProp}
    {d : Nat} {op : Op} {T : TypeId} {p : String} {af : Array Edge} {gd : Option (Nat × Bool)} (i : Nat) (kk : AJ P w0 n ops Q Mro k (i :: D) ((d, undef) :: L) M)
    (ho : ops[i]? = some ⟨some d, op, T, p, af, gd⟩ := by exact rfl) (hik : Nat.blt i k = true := by exact rfl) (hk : Nat.ble k ops.size = true := by exact rfl) (hD : D.contains i = false := by exact rfl) (hf : L.get d = none := by exact rfl) (hd : Nat.blt d n = true := by exact rfl)
    (hns : notSel ⟨some d, op, T, p, af, gd⟩ = true := by exact rfl) (hlk : ((Oper.looksAt ops ⟨some d, op, T, p, af, gd⟩).all fun t => (L.get t).isSome) = true := by exact rfl)
    (hw : wantedL ops L ⟨some d, op, T, p, af, gd⟩ = some false := by exact rfl) : AJ P w0 n ops Q Mro k D L M := AJ.step ho hik hk hD hf hd hns hlk (.inr ⟨hw, rfl⟩) kk
theorem Spec.rebaseR {P : Program} {w0 : World} {f : FuncId} {args : Array Value} {M : List HProp} {K : Value → List HProp → Prop} {KP : List PanicEntry → List HProp → Prop}
    (k : ∀ w h, star M h → Sat w0 w h → Spec P w f args [] (Ret K KP)) : Spec P w0 f args M (Ret (fun v M' => ∃ N, K v N ∧ M' = N ++ M) (fun c M' => ∃ N, KP c N ∧ M' = N ++ M)) :=
  (Spec.rebase k).mono fun e M' ⟨N, h1, h2⟩ => by
    cases e with
    | returned v => exact ⟨N, h1, h2⟩
    | panicked c => exact ⟨N, h1, h2⟩
    | outgrown => exact h1.elim
theorem Spec.rebaseIs {P : Program} {w0 : World} {f : FuncId} {args : Array Value} {M : List HProp} {x : Value}
    (k : ∀ w h, star M h → Sat w0 w h → Spec P w f args [] (Is x)) : Spec P w0 f args M (Ret (fun v M' => v = x ∧ M' = M) noP) :=
  (Spec.rebaseR k).mono fun e M' h => by
    cases e with
    | returned v => obtain ⟨N, ⟨h1, h2⟩, h3⟩ := h; subst h2; exact ⟨h1, h3⟩
    | panicked c => obtain ⟨N, h1, h2⟩ := h; exact h1.elim
    | outgrown => exact h.elim
theorem isExpr_spec (w0 : World) (hT : Tab w0) (n : Node) (cs : List Value) (hs : n.size < 4611686018427387904) (hR : NodeR w0 n cs) :
    Spec Tryz.prog w0 37 #[.agg cs.toArray] [] (Is (.bool (isB n 1))) := by
  obtain ⟨A, cap, hcs, _⟩ := hR.kids
  subst hcs
  refine Spec.enter (args := [_]) Tryz.func37 rfl rfl rfl (fun F => ?_)
  refine kAuto ?_
  (apply RL.boxR; exact kEv; exact rfl; intro b1)
  refine kAuto ?_
  (refine CJ.draws mixed 3 [rcel b1 50 _] (by exact kGives) (dom_of (by kernel_rfl)) ?_)
  refine kAj 1 ?_
  (refine AJ.loud1 (i := 0) (by kernel_rfl) (by kernel_rfl) rfl (by kernel_rfl) (by kernel_rfl) rfl rfl rfl rfl rfl rfl (OpS.call (by exact kEv) inferInstance (by exact kEvl) (Takes.nil _) (forms_spec w0)) ?_ ?_)
  · rintro _ _ ⟨N, ⟨r, rfl, hN⟩, rfl⟩
    refine ⟨Gives.skipApp (by exact kGives), ?_⟩
    (refine AJ.loud1 (i := 2) (by kernel_rfl) (by kernel_rfl) rfl (by kernel_rfl) (by kernel_rfl) rfl rfl rfl rfl rfl rfl (OpS.call (by exact kEv) inferInstance (by exact kEvl) (Takes.app _ _) (Spec.rebaseIs (fun w h hm s => is_spec w (hT.sat s) r (hN w h hm s) _ n _ 1 (Nat.le_refl _) hs (hR.up s.below)))) ?_ ?_)
    · rintro _ _ ⟨N', ⟨rfl, rfl⟩, rfl⟩
      refine ⟨Gives.skipApp (by exact kGives), ?_⟩
      (refine AJ.tail (by kernel_rfl) (by kernel_rfl) rfl (by kernel_rfl) (by kernel_rfl) (by kernel_rfl) ?_)
      refine kAuto ?_
      exact XJ.ret1 rfl rfl [] (Gives.skipApp (by exact kGives)) ⟨rfl, rfl⟩
    · rintro _ _ ⟨_, h, _⟩; exact h.elim
  · rintro _ _ ⟨_, h, _⟩; exact h.elim
theorem isBlock_spec (w0 : World) (hT : Tab w0) (n : Node) (cs : List Value) (hs : n.size < 4611686018427387904) (hR : NodeR w0 n cs) :
    Spec Tryz.prog w0 127 #[.agg cs.toArray] [] (Is (.bool (isB n 8))) := by
  obtain ⟨A, cap, hcs, _⟩ := hR.kids
  subst hcs
  refine Spec.enter (args := [_]) Tryz.func127 rfl rfl rfl (fun F => ?_)
  refine kAuto ?_
  (apply RL.boxR; exact kEv; exact rfl; intro b1)
  refine kAuto ?_
  (refine CJ.draws mixed 3 [rcel b1 50 _] (by exact kGives) (dom_of (by kernel_rfl)) ?_)
  refine kAj 1 ?_
  (refine AJ.loud1 (i := 0) (by kernel_rfl) (by kernel_rfl) rfl (by kernel_rfl) (by kernel_rfl) rfl rfl rfl rfl rfl rfl (OpS.call (by exact kEv) inferInstance (by exact kEvl) (Takes.nil _) (forms_spec w0)) ?_ ?_)
  · rintro _ _ ⟨N, ⟨r, rfl, hN⟩, rfl⟩
    refine ⟨Gives.skipApp (by exact kGives), ?_⟩
    (refine AJ.loud1 (i := 2) (by kernel_rfl) (by kernel_rfl) rfl (by kernel_rfl) (by kernel_rfl) rfl rfl rfl rfl rfl rfl (OpS.call (by exact kEv) inferInstance (by exact kEvl) (Takes.app _ _) (Spec.rebaseIs (fun w h hm s => is_spec w (hT.sat s) r (hN w h hm s) _ n _ 8 (Nat.le_refl _) hs (hR.up s.below)))) ?_ ?_)
    · rintro _ _ ⟨N', ⟨rfl, rfl⟩, rfl⟩
      refine ⟨Gives.skipApp (by exact kGives), ?_⟩
      (refine AJ.tail (by kernel_rfl) (by kernel_rfl) rfl (by kernel_rfl) (by kernel_rfl) (by kernel_rfl) ?_)
      refine kAuto ?_
      exact XJ.ret1 rfl rfl [] (Gives.skipApp (by exact kGives)) ⟨rfl, rfl⟩
    · rintro _ _ ⟨_, h, _⟩; exact h.elim
  · rintro _ _ ⟨_, h, _⟩; exact h.elim

/-! numbers of a tree -/
section
attribute [local semireducible] OpP Ev
theorem OpP.max {P : Program} {w0 : World} {L : Env} {M : List HProp} {d : Option Tmp} {T : TypeId} {p : String} {af : Array Edge} {g : Option (Nat × Bool)} {ts : Array TypeId} {x y : Operand} {k : IntKind} {i j : Int} (hx : Ev L x (.int k i)) (hy : Ev L y (.int k j)) :
    OpP P w0 L M ⟨d, .call { callee := .builtin .max, args := #[x, y], argTypes := ts }, T, p, af, g⟩ (.int k (if j > i then j else i)) := fun n a w h s _ _ => by
  simp [execOp, resolve, invoke, builtin, Builtin.max_, Builtin.max2, hx n a s, hy n a s]
end
theorem sum_spec (w0 : World) (a b : Int) : Spec Tryz.prog w0 62 #[.int .i64 a, .int .i64 b] [] (Is (.int .i64 (IntKind.i64.wrap (a + b)))) := by
  refine Spec.enter (args := [_, _]) Tryz.func62 rfl rfl rfl (fun F => ?_)
  refine kAuto ?_
  exact XJ.ret1 rfl rfl [] (by exact kGives) ⟨rfl, rfl⟩
theorem greater_spec (w0 : World) (a b : Int) : Spec Tryz.prog w0 161 #[.int .i64 a, .int .i64 b] [] (Is (.int .i64 (if b > a then b else a))) := by
  refine Spec.enter (args := [_, _]) Tryz.func161 rfl rfl rfl (fun F => ?_)
  refine kAuto ?_
  apply RL.pur; (apply OpP.max; exact kEv; exact kEv); exact rfl
  refine kAuto ?_
  exact XJ.ret1 rfl rfl [] (by exact kGives) ⟨rfl, rfl⟩
theorem foldl_take {α β : Type} (f : β → α → β) (b : β) (l : List α) (i : Nat) (h : i < l.length) : (l.take (i + 1)).foldl f b = f ((l.take i).foldl f b) l[i] := by
  rw [List.take_succ_eq_append_getElem h, List.foldl_append]
  rfl
theorem fold_spec (w0 : World) (n : Node) (cs : List Value) (k c : FuncId) (g : Node → Int) (f : Int → Int → Int) (hs : n.size < 4611686018427387904) (hR : NodeR w0 n cs) (ck : CallT Tryz.prog k) (cc : CallT Tryz.prog c)
    (hk : ∀ i (hi : i < n.kids.length) r, NodeR w0 n.kids[i] r → Spec Tryz.prog w0 k #[.agg r.toArray] [] (Is (.int .i64 (g n.kids[i]))))
    (hc : ∀ a b, Spec Tryz.prog w0 c #[.int .i64 a, .int .i64 b] [] (Is (.int .i64 (f a b)))) :
    Spec Tryz.prog w0 61 #[.agg cs.toArray, .func (.func k) #[] #[], .func (.func c) #[] #[]] [] (Is (.int .i64 (n.kids.foldl (fun a m => f a (g m)) 0))) := by
  obtain ⟨A, cap, hcs, hcap, hN⟩ := hR.kids
  subst hcs
  have hkl := n.kids_le
  refine Spec.enter (args := [_, _, _]) Tryz.func61 rfl rfl rfl (fun F => ?_)
  refine kAuto ?_
  (apply RL.boxR; exact kEv; exact rfl; intro b1)
  refine kAuto ?_
  refine CJ.loop (σ := Nat) (fun i => i ≤ n.kids.length) (fun i => [(13, .int .i64 (i : Int)), (7, .int .i64 ((n.kids.take i).foldl (fun a m => f a (g m)) 0)), (1, .func (.func k) #[] #[]), (2, .func (.func c) #[] #[]), (11, .slice A n.kids.length cap), (12, .int .i64 n.kids.length)]) (fun _ => F) (fun i => n.kids.length - i) 0 (Nat.zero_le _) (by exact kEsub) (by exact kGives) ?_
  intro i hi
  refine kAuto ?_
  cases hlt : decide ((i : Int) < (n.kids.length : Int))
  · have hge : i = n.kids.length := by have := of_decide_eq_false hlt; omega
    refine kAuto ?_
    refine XJ.ret1 rfl rfl [] (by exact kGives) ⟨?_, rfl⟩
    rw [hge, List.take_length]
  · have hlt' : i < n.kids.length := by have := of_decide_eq_true hlt; omega
    obtain ⟨b, o, r, rfl, hb, hrl, hr⟩ := hN.at_ i hlt'
    obtain ⟨A2, c2, e2, _⟩ := hr.kids
    refine kAuto ?_
    apply RL.pur; (apply OpP.indexAddr; exact kEv; exact kEv; exact hlt'); exact rfl
    apply RL.pur; (apply OpP.loadA; exact kEv; exact HasAt.base hb; exact hrl); exact rfl
    (apply RL.alloc; exact rfl; exact rfl; intro b3)
    (apply RL.storeW; exact kEv; exact kEv; exact kTake; exact hrl; exact rfl; exact (by rw [e2]; rfl))
    refine kAuto ?_
    (apply RL.callIs (first := []) (cap := []); exact kEv; exact ck; exact kEvl; exact hk i hlt' r hr; exact rfl)
    (apply RL.callIs (first := []) (cap := []); exact kEv; exact cc; exact kEvl; exact hc _ _; exact rfl)
    refine kAuto ?_
    rw [i64_succ i (by omega)]
    refine XJ.round (i + 1) (by omega) (by omega) ?_ (by exact kGives)
    rw [foldl_take _ _ _ i hlt']
    exact kEsub
mutual
def sizeI : Node → Int
  | .mk _ _ _ l => IntKind.i64.wrap (1 + sizeF l 0)
def sizeF : List Node → Int → Int
  | [], a => a
  | n :: r, a => sizeF r (IntKind.i64.wrap (a + sizeI n))
end
mutual
def depthI : Node → Int
  | .mk _ _ _ l => IntKind.i64.wrap (1 + depthF l 0)
def depthF : List Node → Int → Int
  | [], a => a
  | n :: r, a => depthF r (if depthI n > a then depthI n else a)
end
mutual
def nestI : Node → Int
  | .mk k _ _ l => if k = 42 ∨ k = 43 then IntKind.i64.wrap (nestF l 0 + 1) else nestF l 0
def nestF : List Node → Int → Int
  | [], a => a
  | n :: r, a => nestF r (if nestI n > a then nestI n else a)
end
theorem sizeF_eq (l : List Node) : ∀ a, sizeF l a = l.foldl (fun a m => IntKind.i64.wrap (a + sizeI m)) a := by
  induction l with
  | nil => intro a; rfl
  | cons n r ih => intro a; rw [sizeF, ih]; rfl
theorem depthF_eq (l : List Node) : ∀ a, depthF l a = l.foldl (fun a m => if depthI m > a then depthI m else a) a := by
  induction l with
  | nil => intro a; rfl
  | cons n r ih => intro a; rw [depthF, ih]; rfl
theorem nestF_eq (l : List Node) : ∀ a, nestF l a = l.foldl (fun a m => if nestI m > a then nestI m else a) a := by
  induction l with
  | nil => intro a; rfl
  | cons n r ih => intro a; rw [nestF, ih]; rfl
theorem size_spec (w0 : World) : ∀ (m : Nat) (n : Node) (cs : List Value), n.size ≤ m → n.size < 4611686018427387904 → NodeR w0 n cs → Spec Tryz.prog w0 28 #[.agg cs.toArray] [] (Is (.int .i64 (sizeI n))) := by
  intro m
  induction m with
  | zero => intro n cs h; have := n.size_pos; omega
  | succ m ih =>
    intro n cs hm hs hR
    have hf := fold_spec w0 n cs 28 62 sizeI (fun a b => IntKind.i64.wrap (a + b)) hs hR inferInstance inferInstance (fun i hi r hr => ih _ r (by have := Node.size_kid (List.getElem_mem hi); omega) (by have := Node.size_kid (List.getElem_mem hi); omega) hr) (sum_spec w0)
    obtain ⟨A, cap, hcs, _⟩ := hR.kids
    subst hcs
    refine Spec.enter (args := [_]) Tryz.func28 rfl rfl rfl (fun F => ?_)
    refine kAuto ?_
    (apply RL.boxR; exact kEv; exact rfl; intro b1)
    refine kAuto ?_
    (apply RL.callIs; exact kEv; exact inferInstance; exact kEvl; exact hf; exact rfl)
    refine kAuto ?_
    refine XJ.ret1 rfl rfl [] (by exact kGives) ⟨?_, rfl⟩
    cases n
    rw [sizeI, sizeF_eq]
    rfl
theorem depth_spec (w0 : World) : ∀ (m : Nat) (n : Node) (cs : List Value), n.size ≤ m → n.size < 4611686018427387904 → NodeR w0 n cs → Spec Tryz.prog w0 128 #[.agg cs.toArray] [] (Is (.int .i64 (depthI n))) := by
  intro m
  induction m with
  | zero => intro n cs h; have := n.size_pos; omega
  | succ m ih =>
    intro n cs hm hs hR
    have hf := fold_spec w0 n cs 128 161 depthI (fun a b => if b > a then b else a) hs hR inferInstance inferInstance (fun i hi r hr => ih _ r (by have := Node.size_kid (List.getElem_mem hi); omega) (by have := Node.size_kid (List.getElem_mem hi); omega) hr) (greater_spec w0)
    obtain ⟨A, cap, hcs, _⟩ := hR.kids
    subst hcs
    refine Spec.enter (args := [_]) Tryz.func128 rfl rfl rfl (fun F => ?_)
    refine kAuto ?_
    (apply RL.boxR; exact kEv; exact rfl; intro b1)
    refine kAuto ?_
    (apply RL.callIs; exact kEv; exact inferInstance; exact kEvl; exact hf; exact rfl)
    refine kAuto ?_
    refine XJ.ret1 rfl rfl [] (by exact kGives) ⟨?_, rfl⟩
    cases n
    rw [depthI, depthF_eq]
    rfl
theorem nest_spec (w0 : World) : ∀ (m : Nat) (n : Node) (cs : List Value), n.size ≤ m → n.size < 4611686018427387904 → NodeR w0 n cs → Spec Tryz.prog w0 129 #[.agg cs.toArray] [] (Is (.int .i64 (nestI n))) := by
  intro m
  induction m with
  | zero => intro n cs h; have := n.size_pos; omega
  | succ m ih =>
    intro n cs hm hs hR
    have hf := fold_spec w0 n cs 129 161 nestI (fun a b => if b > a then b else a) hs hR inferInstance inferInstance (fun i hi r hr => ih _ r (by have := Node.size_kid (List.getElem_mem hi); omega) (by have := Node.size_kid (List.getElem_mem hi); omega) hr) (greater_spec w0)
    obtain ⟨A, cap, hcs, _⟩ := hR.kids
    subst hcs
    obtain ⟨kd, num, nm, kids⟩ := n
    simp only [Node.kind, Node.num, Node.name, Node.kids] at *
    refine Spec.enter (args := [_]) Tryz.func129 rfl rfl rfl (fun F => ?_)
    refine kAuto ?_
    (apply RL.boxR; exact kEv; exact rfl; intro b1)
    refine kAuto ?_
    (apply RL.callIs; exact kEv; exact inferInstance; exact kEvl; exact hf; exact rfl)
    refine kAuto ?_
    cases h1 : kd == 42
    · refine kAuto ?_
      cases h2 : kd == 43
      · refine kAuto ?_
        refine XJ.ret1 rfl rfl [] (by exact kGives) ⟨?_, rfl⟩
        rw [nestI, nestF_eq, if_neg (by simp at h1 h2; omega)]
      · refine kAuto ?_
        refine XJ.ret1 rfl rfl [] (by exact kGives) ⟨?_, rfl⟩
        rw [nestI, nestF_eq, if_pos (by simp at h1 h2; omega)]
    · refine kAuto ?_
      refine XJ.ret1 rfl rfl [] (by exact kGives) ⟨?_, rfl⟩
      rw [nestI, nestF_eq, if_pos (by simp at h1; omega)]
end Go.Proofs.YtgmapenlgammfaaGreatDoor

/- The package ast: which tasks and programs are valid. -/
namespace Go.Proofs.YtgmapenlgammfaaGreatDoor
open Go

def arrB (a : Arr) : Bool := nameB a.name && !decide (a.len < 1) && !decide (a.len > 32)
def arrsB (l : List Arr) (most : Int) : Bool := decide ((l.length : Int) ≤ most) && l.all arrB
def taskB (t : Task) : Bool :=
  nameB t.name && !decide (t.period < 1) && !decide (t.period > 1000) && !decide ((t.vars.length : Int) > 12) && arrsB t.arrays 4 && t.vars.all nameB &&
    (isB t.body 8 && decide (depthI t.body ≤ 16) && decide (sizeI t.body ≤ 400) && decide (nestI t.body ≤ 4))
/-- Whether a program is valid. -/
def validB (p : Prg) : Bool := arrsB p.shared 4 && decide ((p.tasks.length : Int) ≤ 8) && p.tasks.all taskB
/-- The sizes for which the walks speak. -/
structure Fit (p : Prg) : Prop where
  shared : p.shared.length < 4611686018427387904
  tasks : p.tasks.length < 4611686018427387904
  each : ∀ t ∈ p.tasks, t.vars.length < 4611686018427387904 ∧ t.arrays.length < 4611686018427387904 ∧ t.body.size < 4611686018427387904

theorem arrays1_spec (w0 : World) (hT : Tab w0) (a : Arr) : Spec Tryz.prog w0 123 #[.agg (arrRow a).toArray] [] (Is (.bool (!arrB a))) := by
  unfold arrRow
  refine Spec.enter (args := [_]) Tryz.func123 rfl rfl rfl (fun F => ?_)
  refine kAuto ?_
  (apply RL.boxR; exact kEv; exact rfl; intro b1)
  refine kAuto ?_
  (apply RL.callIs; exact kEv; exact inferInstance; exact kEvl; exact name_spec w0 hT a.name; exact rfl)
  cases h1 : nameB a.name
  · refine kAuto ?_
    refine XJ.ret1 rfl rfl [] (by exact kGives) ⟨?_, rfl⟩
    rw [arrB, h1]; rfl
  · refine kAuto ?_
    cases h2 : decide (a.len < 1)
    · refine kAuto ?_
      refine XJ.ret1 rfl rfl [] (by exact kGives) ⟨?_, rfl⟩
      rw [arrB, h1, h2]; simp
    · refine kAuto ?_
      refine XJ.ret1 rfl rfl [] (by exact kGives) ⟨?_, rfl⟩
      rw [arrB, h1, h2]; rfl
def arr0 : Arr := ⟨⟨#[]⟩, 0⟩
theorem getD_eq {α : Type} (l : List α) (d : α) (i : Nat) (h : i < l.length) : l.getD i d = l[i] := by simp [List.getD_eq_getElem?_getD, h]
theorem arrays_spec (w0 : World) (hT : Tab w0) (A : Option Addr) (c : Nat) (l : List Arr) (most : Int) (hl : l.length < 4611686018427387904) (hR : RowsB w0 2 A (l.map arrRow)) :
    Spec Tryz.prog w0 84 #[.slice A l.length c, .int .i64 most] [] (Is (.bool (arrsB l most))) := by
  have hc := arr_contains_spec w0 123 [] [] A c (l.map arrRow) [] (fun i => !arrB (l.getD i arr0)) inferInstance (by simpa using hl) hR (fun i hi => by
    have hi' : i < l.length := by simpa using hi
    rw [getD_eq l arr0 i hi', List.getElem_map]
    exact arrays1_spec w0 hT _)
  rw [List.length_map] at hc
  refine Spec.enter (args := [_, _]) Tryz.func84 rfl rfl rfl (fun F => ?_)
  refine kAuto ?_
  cases h1 : decide ((l.length : Int) ≤ most)
  · refine kAuto ?_
    refine XJ.ret1 rfl rfl [] (by exact kGives) ⟨?_, rfl⟩
    rw [arrsB, h1]; rfl
  · refine kAuto ?_
    (apply RL.callIs; exact kEv; exact inferInstance; exact kEvl; exact hc; exact rfl)
    have e : anyI (fun i => !arrB (l.getD i arr0)) l.length = !(l.all arrB) := by rw [anyI_list l (fun a => !arrB a) arr0, List.not_all_eq_any_not]
    rw [e]
    cases h2 : l.all arrB
    · refine kAuto ?_
      refine XJ.ret1 rfl rfl [] (by exact kGives) ⟨?_, rfl⟩
      rw [arrsB, h1, h2]; rfl
    · refine kAuto ?_
      refine XJ.ret1 rfl rfl [] (by exact kGives) ⟨?_, rfl⟩
      rw [arrsB, h1, h2]; rfl
theorem valid1_spec (w0 : World) (hT : Tab w0) (s : ByteArray) : Spec Tryz.prog w0 126 #[.string s] [] (Is (.bool (!nameB s))) := by
  refine Spec.enter (args := [_]) Tryz.func126 rfl rfl rfl (fun F => ?_)
  refine kAuto ?_
  (apply RL.callIs; exact kEv; exact inferInstance; exact kEvl; exact name_spec w0 hT s; exact rfl)
  refine kAuto ?_
  exact XJ.ret1 rfl rfl [] (by exact kGives) ⟨rfl, rfl⟩
theorem valid_spec (w0 : World) (hT : Tab w0) (t : Task) (cs : List Value) (hv : t.vars.length < 4611686018427387904) (ha : t.arrays.length < 4611686018427387904) (hb : t.body.size < 4611686018427387904) (hR : TaskR w0 t cs) :
    Spec Tryz.prog w0 87 #[.agg cs.toArray] [] (Is (.bool (taskB t))) := by
  obtain ⟨A1, c1, A2, c2, bs, rfl, h1, h2, h3, h4, h5⟩ := hR.ex
  have hc := str_contains_spec w0 126 [] [] A1 c1 (t.vars.map strRow) [] (fun i => !nameB (t.vars.getD i ⟨#[]⟩)) inferInstance (by simpa using hv) h3 (fun i hi => by
    have hi' : i < t.vars.length := by simpa using hi
    rw [getD_eq t.vars ⟨#[]⟩ i hi', List.getElem_map]
    exact valid1_spec w0 hT _)
  rw [List.length_map, anyI_list t.vars (fun s => !nameB s) ⟨#[]⟩, ← List.not_all_eq_any_not] at hc
  have hA := arrays_spec w0 hT A2 c2 t.arrays 4 ha h4
  have hB := isBlock_spec w0 hT t.body bs hb h5
  have hD := depth_spec w0 _ t.body bs (Nat.le_refl _) hb h5
  have hS := size_spec w0 _ t.body bs (Nat.le_refl _) hb h5
  have hN := nest_spec w0 _ t.body bs (Nat.le_refl _) hb h5
  obtain ⟨A, cap, hbs, _⟩ := h5.kids
  subst hbs
  refine Spec.enter (args := [_]) Tryz.func87 rfl rfl rfl (fun F => ?_)
  refine kAuto ?_
  (apply RL.boxR; exact kEv; exact rfl; intro b1)
  refine kAuto ?_
  (apply RL.callIs; exact kEv; exact inferInstance; exact kEvl; exact name_spec w0 hT t.name; exact rfl)
  cases e1 : nameB t.name
  case false =>
    refine kAuto ?_
    refine XJ.ret1 rfl rfl [] (by exact kGives) ⟨?_, rfl⟩
    rw [taskB, e1]; rfl
  refine kAuto ?_
  cases e2 : decide (t.period < 1)
  case true =>
    refine kAuto ?_
    refine XJ.ret1 rfl rfl [] (by exact kGives) ⟨?_, rfl⟩
    rw [taskB, e1, e2]; rfl
  refine kAuto ?_
  cases e3 : decide (t.period > 1000)
  case true =>
    refine kAuto ?_
    refine XJ.ret1 rfl rfl [] (by exact kGives) ⟨?_, rfl⟩
    rw [taskB, e1, e2, e3]; rfl
  refine kAuto ?_
  cases e4 : decide ((t.vars.length : Int) > 12)
  case true =>
    refine kAuto ?_
    refine XJ.ret1 rfl rfl [] (by exact kGives) ⟨?_, rfl⟩
    rw [taskB, e1, e2, e3, e4]; rfl
  refine kAuto ?_
  (apply RL.callIs; exact kEv; exact inferInstance; exact kEvl; exact hA; exact rfl)
  cases e5 : arrsB t.arrays 4
  case false =>
    refine kAuto ?_
    refine XJ.ret1 rfl rfl [] (by exact kGives) ⟨?_, rfl⟩
    rw [taskB, e1, e2, e3, e4, e5]; rfl
  refine kAuto ?_
  (apply RL.callIs; exact kEv; exact inferInstance; exact kEvl; exact hc; exact rfl)
  cases e6 : t.vars.all nameB
  case false =>
    refine kAuto ?_
    refine XJ.ret1 rfl rfl [] (by exact kGives) ⟨?_, rfl⟩
    rw [taskB, e1, e2, e3, e4, e5, e6]; rfl
  refine kAuto ?_
  refine kAuto ?_
  (apply RL.callIs; exact kEv; exact inferInstance; exact kEvl; exact hB; exact rfl)
  cases e7 : isB t.body 8
  case false =>
    refine kAuto ?_
    refine XJ.ret1 rfl rfl [] (by exact kGives) ⟨?_, rfl⟩
    rw [taskB, e1, e2, e3, e4, e5, e6, e7]; rfl
  refine kAuto ?_
  (apply RL.callIs; exact kEv; exact inferInstance; exact kEvl; exact hD; exact rfl)
  refine kAuto ?_
  cases e8 : decide (depthI t.body ≤ 16)
  case false =>
    refine kAuto ?_
    refine XJ.ret1 rfl rfl [] (by exact kGives) ⟨?_, rfl⟩
    rw [taskB, e1, e2, e3, e4, e5, e6, e7, e8]; rfl
  refine kAuto ?_
  (apply RL.callIs; exact kEv; exact inferInstance; exact kEvl; exact hS; exact rfl)
  refine kAuto ?_
  cases e9 : decide (sizeI t.body ≤ 400)
  case false =>
    refine kAuto ?_
    refine XJ.ret1 rfl rfl [] (by exact kGives) ⟨?_, rfl⟩
    rw [taskB, e1, e2, e3, e4, e5, e6, e7, e8, e9]; rfl
  refine kAuto ?_
  (apply RL.callIs; exact kEv; exact inferInstance; exact kEvl; exact hN; exact rfl)
  refine kAuto ?_
  refine XJ.ret1 rfl rfl [] (by exact kGives) ⟨?_, rfl⟩
  rw [taskB, e1, e2, e3, e4, e5, e6, e7, e8, e9]; rfl
theorem Valid1_spec (w0 : World) (hT : Tab w0) (t : Task) (cs : List Value) (hv : t.vars.length < 4611686018427387904) (ha : t.arrays.length < 4611686018427387904) (hb : t.body.size < 4611686018427387904) (hl : cs.length = 8) (hR : TaskR w0 t cs) :
    Spec Tryz.prog w0 86 #[.agg cs.toArray] [] (Is (.bool (!taskB t))) := by
  have hs := valid_spec w0 hT t cs hv ha hb hR
  refine Spec.enter (args := [_]) Tryz.func86 rfl rfl rfl (fun F => ?_)
  refine kAuto ?_
  (apply RL.boxR; exact kEv; exact rfl; intro b1)
  refine kAuto ?_
  (apply RL.callIs; exact kEv; exact inferInstance; exact kEvl; exact hs; exact rfl)
  refine kAuto ?_
  exact XJ.ret1 rfl rfl [] (by exact kGives) ⟨rfl, rfl⟩
def task0 : Task := ⟨⟨#[]⟩, 0, [], [], node0⟩
theorem Valid_spec (w0 : World) (hT : Tab w0) (p : Prg) (cs : List Value) (hf : Fit p) (hR : PrgR w0 p cs) :
    Spec Tryz.prog w0 51 #[.agg cs.toArray] [] (Is (.bool (validB p))) := by
  obtain ⟨A1, c1, A2, c2, rfl, h1, h2, h3, h4⟩ := hR.ex
  obtain ⟨rows, hrl, hrows, hrt⟩ := h4.ex
  have hA := arrays_spec w0 hT A1 c1 p.shared 4 hf.shared h3
  have hc := task_contains_spec w0 86 [] [] A2 c2 rows [] (fun i => !taskB (p.tasks.getD i task0)) inferInstance (by have := hf.tasks; omega) hrows (fun i hi => by
    have hi' : i < p.tasks.length := by omega
    rw [getD_eq p.tasks task0 i hi']
    have hm := hf.each _ (List.getElem_mem hi')
    exact Valid1_spec w0 hT _ _ hm.1 hm.2.1 hm.2.2 (hrows.at_ i hi).choose_spec.choose_spec.2.1 (hrt i _ _ (by simp [hi']) (by simp [hi])))
  rw [hrl, anyI_list p.tasks (fun t => !taskB t) task0, ← List.not_all_eq_any_not] at hc
  refine Spec.enter (args := [_]) Tryz.func51 rfl rfl rfl (fun F => ?_)
  refine kAuto ?_
  (apply RL.boxR; exact kEv; exact rfl; intro b1)
  refine kAuto ?_
  (apply RL.callIs; exact kEv; exact inferInstance; exact kEvl; exact hA; exact rfl)
  cases e1 : arrsB p.shared 4
  case false =>
    refine kAuto ?_
    refine XJ.ret1 rfl rfl [] (by exact kGives) ⟨?_, rfl⟩
    rw [validB, e1]; rfl
  refine kAuto ?_
  cases e2 : decide ((p.tasks.length : Int) ≤ 8)
  case false =>
    refine kAuto ?_
    refine XJ.ret1 rfl rfl [] (by exact kGives) ⟨?_, rfl⟩
    rw [validB, e1, e2]; rfl
  refine kAuto ?_
  (apply RL.callIs; exact kEv; exact inferInstance; exact kEvl; exact hc; exact rfl)
  refine kAuto ?_
  refine XJ.ret1 rfl rfl [] (by exact kGives) ⟨?_, rfl⟩
  rw [validB, e1, e2]; simp
end Go.Proofs.YtgmapenlgammfaaGreatDoor

/- The package check: what a name means at a node; all of it read in the base. -/
namespace Go.Proofs.YtgmapenlgammfaaGreatDoor
open Go
attribute [local semireducible] HasMap

/-- A map of the base. -/
def MapB (w : World) {κ : Type} [DecidableEq κ] (enc : κ → Value) (r : Nat) (m : κ → Option Value) : Prop := ∃ es clk, w.heap[r]? = some (.map es clk) ∧ MapIs enc es m
theorem MapB.has {w0 : World} {κ : Type} [DecidableEq κ] {enc : κ → Value} {r : Nat} {m : κ → Option Value} {M : List HProp} (h : MapB w0 enc r m) : HasMap w0 M enc r m := by
  obtain ⟨es, clk, h1, h2⟩ := h
  exact HasMap.base h1 h2
structure Scope where
  scalars : ByteArray → Bool
  loops : ByteArray → Bool
  held : List ByteArray
structure Ctx where
  vars : ByteArray → Bool
  arrays : ByteArray → Bool
  shared : ByteArray → Bool
def varE (C : Ctx) (S : Scope) (name : ByteArray) (place : Bool) : Int :=
  if place && S.loops name then 7 else if S.scalars name then 0 else if C.arrays name || C.shared name then 7 else 6
def itemE (C : Ctx) (S : Scope) (name : ByteArray) : Int :=
  if C.arrays name then 0 else if C.shared name then (if S.held.any (fun y => decide (name = y)) then 0 else 12) else if S.scalars name then 7 else 6
/-- The error of one node. -/
def faultE (C : Ctx) (S : Scope) (k : Int) (name : ByteArray) (place : Bool) : Int :=
  if k = 2 then varE C S name place
  else if k = 3 then itemE C S name
  else if k = 42 then (if C.vars name || C.arrays name || C.shared name || S.loops name then 8 else 0)
  else if k = 46 then (if !C.shared name then 6 else if S.held.length = 0 then 0 else 12)
  else 0
/-- How the checker and a scope lie in the base. -/
structure CtxB (w : World) (bc : Nat) (C : Ctx) : Prop where
  ex : ∃ task rv ra rs vout, Base w bc 0 [.int .i64 task, .map (some rv), .map (some ra), .map (some rs), vout] ∧ MapB w Value.string rv (setM C.vars) ∧ MapB w Value.string ra (setM C.arrays) ∧ MapB w Value.string rs (setM C.shared)
structure ScopeB (w : World) (v : Value) (S : Scope) : Prop where
  ex : ∃ r1 r2 A c, v = .agg #[.map (some r1), .map (some r2), .slice A S.held.length c] ∧ MapB w Value.string r1 (setM S.scalars) ∧ MapB w Value.string r2 (setM S.loops) ∧ RowsB w 1 A (S.held.map strRow)
attribute [local semireducible] Base in
theorem Base.one {w : World} {b o : Nat} {vs : List Value} (h : Base w b o vs) (i : Nat) {v : Value} (e : vs[i]? = some v) : Base w b (o + i) [v] := by
  intro j u hu
  rcases j with _ | j
  · simp at hu; subst hu; exact h i v e
  · simp at hu

theorem sindex_spec (w0 : World) (l : List ByteArray) (x : ByteArray) (A : Option Addr) (c : Nat) (hl : l.length < 4611686018427387904) (hh : RowsB w0 1 A (l.map strRow)) :
    Spec Tryz.prog w0 180 #[.slice A l.length c, .string x] [] (Is (.int .i64 (idxOf l x 0))) := by
  refine Spec.enter (args := [_, _]) Tryz.func180 rfl rfl rfl (fun F => ?_)
  refine kAuto ?_
  refine CJ.loop (σ := Nat) (fun i => i ≤ l.length ∧ idxOf l x 0 = idxOf (l.drop i) x i) (fun i => [(8, .int .i64 (i : Int)), (0, .slice A l.length c), (1, .string x), (7, .int .i64 (l.length : Int))]) (fun _ => F) (fun i => l.length - i) 0 ⟨Nat.zero_le _, by simp⟩ (by exact kEsub) (Gives.refl _) ?_
  intro i ⟨hi, he⟩
  refine kAuto ?_
  cases hlt : decide ((i : Int) < (l.length : Int))
  · have hge : i = l.length := by have := of_decide_eq_false hlt; omega
    refine kAuto ?_
    refine XJ.ret1 rfl rfl [] (by exact kGives) ⟨?_, rfl⟩
    rw [he, hge, List.drop_length]
    rfl
  · have hlt' : i < l.length := by have := of_decide_eq_true hlt; omega
    obtain ⟨b, o, rfl, hrl, hb⟩ := hh.at_ i (by simpa using hlt')
    simp only [List.getElem_map, strRow] at hb hrl
    refine kAuto ?_
    apply RL.pur; (apply OpP.indexAddr; exact kEv; exact kEv; exact hlt'); exact rfl
    apply RL.pur; (apply OpP.load; exact kEv; exact HasAt.base hb); exact rfl
    refine kAuto ?_
    have hd : l.drop i = l[i]'hlt' :: l.drop (i + 1) := List.drop_eq_getElem_cons hlt'
    cases hc : decide (x = l[i]'hlt')
    · refine kAuto ?_
      rw [i64_succ i (by omega)]
      refine XJ.round (i + 1) ⟨by omega, ?_⟩ (by omega) (by exact kEsub) (Gives.refl _)
      rw [he, hd]
      have hc' := of_decide_eq_false hc
      simp [idxOf, hc']
    · refine kAuto ?_
      refine XJ.ret1 rfl rfl [] (by exact kGives) ⟨?_, rfl⟩
      rw [he, hd]
      have hc' := of_decide_eq_true hc
      simp [idxOf, hc']
theorem scontains_spec (w0 : World) (l : List ByteArray) (x : ByteArray) (A : Option Addr) (c : Nat) (hl : l.length < 4611686018427387904) (hh : RowsB w0 1 A (l.map strRow)) :
    Spec Tryz.prog w0 172 #[.slice A l.length c, .string x] [] (Is (.bool (l.any fun y => decide (x = y)))) := by
  refine Spec.enter (args := [_, _]) Tryz.func172 rfl rfl rfl (fun F => ?_)
  refine kAuto ?_
  (apply RL.callIs; exact kEv; exact inferInstance; exact kEvl; exact sindex_spec w0 l x A c hl hh; exact rfl)
  refine kAuto ?_
  refine XJ.ret1 rfl rfl [] (by exact kGives) ⟨?_, rfl⟩
  rw [idxOf_nonneg]
theorem variable_spec (w0 : World) (bc : Nat) (C : Ctx) (S : Scope) (vs : Value) (hC : CtxB w0 bc C) (hS : ScopeB w0 vs S) (name : ByteArray) (place : Bool) :
    Spec Tryz.prog w0 162 #[.pointer (some ⟨bc, 0, none⟩), .string name, .bool place, vs] [] (Is (.int .i64 (varE C S name place))) := by
  obtain ⟨task, rv, ra, rs, vout, hb, hv, ha, hs⟩ := hC.ex
  obtain ⟨r1, r2, A, c, rfl, h1, h2, h3⟩ := hS.ex
  have b1 := hb.one 1 rfl
  have b2 := hb.one 2 rfl
  have b3 := hb.one 3 rfl
  refine Spec.enter (args := [_, _, _, _]) Tryz.func162 rfl rfl rfl (fun F => ?_)
  refine kAuto ?_
  (apply RL.boxR; exact kEv; exact rfl; intro b7)
  refine kAuto ?_
  cases hp : place
  · refine kAuto ?_
    cases e1 : S.scalars name
    · refine kAuto ?_
      cases e2 : C.arrays name
      · refine kAuto ?_
        cases e3 : C.shared name
        · refine kAuto ?_
          refine XJ.ret1 rfl rfl [] (by exact kGives) ⟨?_, rfl⟩
          rw [varE, e1, e2, e3]; rfl
        · refine kAuto ?_
          refine XJ.ret1 rfl rfl [] (by exact kGives) ⟨?_, rfl⟩
          rw [varE, e1, e2, e3]; rfl
      · refine kAuto ?_
        refine XJ.ret1 rfl rfl [] (by exact kGives) ⟨?_, rfl⟩
        rw [varE, e1, e2]; rfl
    · refine kAuto ?_
      refine XJ.ret1 rfl rfl [] (by exact kGives) ⟨?_, rfl⟩
      rw [varE, e1]; rfl
  · refine kAuto ?_
    cases e0 : S.loops name
    · refine kAuto ?_
      cases e1 : S.scalars name
      · refine kAuto ?_
        cases e2 : C.arrays name
        · refine kAuto ?_
          cases e3 : C.shared name
          · refine kAuto ?_
            refine XJ.ret1 rfl rfl [] (by exact kGives) ⟨?_, rfl⟩
            rw [varE, e0, e1, e2, e3]; rfl
          · refine kAuto ?_
            refine XJ.ret1 rfl rfl [] (by exact kGives) ⟨?_, rfl⟩
            rw [varE, e0, e1, e2, e3]; rfl
        · refine kAuto ?_
          refine XJ.ret1 rfl rfl [] (by exact kGives) ⟨?_, rfl⟩
          rw [varE, e0, e1, e2]; rfl
      · refine kAuto ?_
        refine XJ.ret1 rfl rfl [] (by exact kGives) ⟨?_, rfl⟩
        rw [varE, e0, e1]; rfl
    · refine kAuto ?_
      refine XJ.ret1 rfl rfl [] (by exact kGives) ⟨?_, rfl⟩
      rw [varE, e0]; rfl
theorem item_spec (w0 : World) (bc : Nat) (C : Ctx) (S : Scope) (vs : Value) (hC : CtxB w0 bc C) (hS : ScopeB w0 vs S) (hl : S.held.length < 4611686018427387904) (name : ByteArray) :
    Spec Tryz.prog w0 163 #[.pointer (some ⟨bc, 0, none⟩), .string name, vs] [] (Is (.int .i64 (itemE C S name))) := by
  obtain ⟨task, rv, ra, rs, vout, hb, hv, ha, hs⟩ := hC.ex
  obtain ⟨r1, r2, A, c, rfl, h1, h2, h3⟩ := hS.ex
  have b1 := hb.one 1 rfl
  have b2 := hb.one 2 rfl
  have b3 := hb.one 3 rfl
  refine Spec.enter (args := [_, _, _]) Tryz.func163 rfl rfl rfl (fun F => ?_)
  refine kAuto ?_
  (apply RL.boxR; exact kEv; exact rfl; intro b7)
  refine kAuto ?_
  cases e1 : C.arrays name
  · refine kAuto ?_
    cases e2 : C.shared name
    · refine kAuto ?_
      cases e3 : S.scalars name
      · refine kAuto ?_
        refine XJ.ret1 rfl rfl [] (by exact kGives) ⟨?_, rfl⟩
        rw [itemE, e1, e2, e3]; rfl
      · refine kAuto ?_
        refine XJ.ret1 rfl rfl [] (by exact kGives) ⟨?_, rfl⟩
        rw [itemE, e1, e2, e3]; rfl
    · refine kAuto ?_
      (apply RL.callIs; exact kEv; exact inferInstance; exact kEvl; exact scontains_spec w0 S.held name A c hl h3; exact rfl)
      cases e4 : S.held.any (fun y => decide (name = y))
      · refine kAuto ?_
        refine XJ.ret1 rfl rfl [] (by exact kGives) ⟨?_, rfl⟩
        rw [itemE, e1, e2, e4]; rfl
      · refine kAuto ?_
        refine XJ.ret1 rfl rfl [] (by exact kGives) ⟨?_, rfl⟩
        rw [itemE, e1, e2, e4]; rfl
  · refine kAuto ?_
    refine XJ.ret1 rfl rfl [] (by exact kGives) ⟨?_, rfl⟩
    rw [itemE, e1]; rfl
theorem fault_spec (w0 : World) (bc : Nat) (C : Ctx) (S : Scope) (vs : Value) (hC : CtxB w0 bc C) (hS : ScopeB w0 vs S) (hl : S.held.length < 4611686018427387904) (k num : Int) (name : ByteArray) (kv : Value) (place : Bool) :
    Spec Tryz.prog w0 132 #[.pointer (some ⟨bc, 0, none⟩), .agg #[.int .u8 k, .int .i64 num, .string name, kv], .bool place, vs] [] (Is (.int .i64 (faultE C S k name place))) := by
  have hV := variable_spec w0 bc C S vs hC hS name place
  have hI := item_spec w0 bc C S vs hC hS hl name
  obtain ⟨task, rv, ra, rs, vout, hb, hv, ha, hs⟩ := hC.ex
  obtain ⟨r1, r2, A, c, rfl, h1, h2, h3⟩ := hS.ex
  have b1 := hb.one 1 rfl
  have b2 := hb.one 2 rfl
  have b3 := hb.one 3 rfl
  refine Spec.enter (args := [_, _, _, _]) Tryz.func132 rfl rfl rfl (fun F => ?_)
  refine kAuto ?_
  (apply RL.boxR; exact kEv; exact rfl; intro b5)
  (apply RL.boxR; exact kEv; exact rfl; intro b7)
  refine kAuto ?_
  cases e2 : (k == 2)
  case true =>
    have e2' : k = 2 := by simpa using e2
    refine kAuto ?_
    (apply RL.callIs; exact kEv; exact inferInstance; exact kEvl; exact hV; exact rfl)
    refine kAuto ?_
    refine XJ.ret1 rfl rfl [] (by exact kGives) ⟨?_, rfl⟩
    rw [faultE, if_pos e2']
  have e2' : ¬ k = 2 := by simpa using e2
  refine kAuto ?_
  cases e3 : (k == 3)
  case true =>
    have e3' : k = 3 := by simpa using e3
    refine kAuto ?_
    (apply RL.callIs; exact kEv; exact inferInstance; exact kEvl; exact hI; exact rfl)
    refine kAuto ?_
    refine XJ.ret1 rfl rfl [] (by exact kGives) ⟨?_, rfl⟩
    rw [faultE, if_neg e2', if_pos e3']
  have e3' : ¬ k = 3 := by simpa using e3
  refine kAuto ?_
  cases e42 : (k == 42)
  case true =>
    have e42' : k = 42 := by simpa using e42
    have hF : faultE C S k name place = (if C.vars name || C.arrays name || C.shared name || S.loops name then 8 else 0) := by rw [faultE, if_neg e2', if_neg e3', if_pos e42']
    rw [hF]
    refine kAuto ?_
    (refine CJ.draws mixed 32 _ (by exact kGives) (dom_of (by kernel_rfl)) ?_)
    ((first | refine kAj 0 ?_ | refine kAjS 0 ?_); (first | refine kAj 1 ?_ | refine kAjS 1 ?_); (first | refine kAj 2 ?_ | refine kAjS 2 ?_); (first | refine kAj 3 ?_ | refine kAjS 3 ?_); (first | refine kAj 4 ?_ | refine kAjS 4 ?_); (first | refine kAj 5 ?_ | refine kAjS 5 ?_); (first | refine kAj 6 ?_ | refine kAjS 6 ?_); (first | refine kAj 7 ?_ | refine kAjS 7 ?_))
    cases f1 : C.vars name
    case true =>
      ((first | refine kAj 8 ?_ | refine kAjS 8 ?_); (first | refine kAj 9 ?_ | refine kAjS 9 ?_); (first | refine kAj 10 ?_ | refine kAjS 10 ?_); (first | refine kAj 11 ?_ | refine kAjS 11 ?_); (first | refine kAj 12 ?_ | refine kAjS 12 ?_); (first | refine kAj 13 ?_ | refine kAjS 13 ?_); (first | refine kAj 14 ?_ | refine kAjS 14 ?_); (first | refine kAj 15 ?_ | refine kAjS 15 ?_); (first | refine kAj 16 ?_ | refine kAjS 16 ?_); (first | refine kAj 17 ?_ | refine kAjS 17 ?_); (first | refine kAj 18 ?_ | refine kAjS 18 ?_); (first | refine kAj 19 ?_ | refine kAjS 19 ?_); (first | refine kAj 20 ?_ | refine kAjS 20 ?_); (first | refine kAj 21 ?_ | refine kAjS 21 ?_); (first | refine kAj 22 ?_ | refine kAjS 22 ?_); (first | refine kAj 23 ?_ | refine kAjS 23 ?_); (first | refine kAj 24 ?_ | refine kAjS 24 ?_); (first | refine kAj 25 ?_ | refine kAjS 25 ?_); (first | refine kAj 26 ?_ | refine kAjS 26 ?_); (first | refine kAj 27 ?_ | refine kAjS 27 ?_); (first | refine kAj 28 ?_ | refine kAjS 28 ?_); (first | refine kAj 29 ?_ | refine kAjS 29 ?_); (first | refine kAj 30 ?_ | refine kAjS 30 ?_); (first | refine kAj 31 ?_ | refine kAjS 31 ?_))
      (refine AJ.done (by kernel_rfl) (by kernel_rfl) rfl (by kernel_rfl) ?_)
      refine kAuto ?_
      refine XJ.ret1 rfl rfl [] (by exact kGives) ⟨?_, rfl⟩
      rfl
    ((first | refine kAj 8 ?_ | refine kAjS 8 ?_); (first | refine kAj 9 ?_ | refine kAjS 9 ?_); (first | refine kAj 10 ?_ | refine kAjS 10 ?_); (first | refine kAj 11 ?_ | refine kAjS 11 ?_); (first | refine kAj 12 ?_ | refine kAjS 12 ?_); (first | refine kAj 13 ?_ | refine kAjS 13 ?_); (first | refine kAj 14 ?_ | refine kAjS 14 ?_); (first | refine kAj 15 ?_ | refine kAjS 15 ?_); (first | refine kAj 16 ?_ | refine kAjS 16 ?_))
    cases f2 : C.arrays name
    case true =>
      ((first | refine kAj 17 ?_ | refine kAjS 17 ?_); (first | refine kAj 18 ?_ | refine kAjS 18 ?_); (first | refine kAj 19 ?_ | refine kAjS 19 ?_); (first | refine kAj 20 ?_ | refine kAjS 20 ?_); (first | refine kAj 21 ?_ | refine kAjS 21 ?_); (first | refine kAj 22 ?_ | refine kAjS 22 ?_); (first | refine kAj 23 ?_ | refine kAjS 23 ?_); (first | refine kAj 24 ?_ | refine kAjS 24 ?_); (first | refine kAj 25 ?_ | refine kAjS 25 ?_); (first | refine kAj 26 ?_ | refine kAjS 26 ?_); (first | refine kAj 27 ?_ | refine kAjS 27 ?_); (first | refine kAj 28 ?_ | refine kAjS 28 ?_); (first | refine kAj 29 ?_ | refine kAjS 29 ?_); (first | refine kAj 30 ?_ | refine kAjS 30 ?_); (first | refine kAj 31 ?_ | refine kAjS 31 ?_))
      (refine AJ.done (by kernel_rfl) (by kernel_rfl) rfl (by kernel_rfl) ?_)
      refine kAuto ?_
      refine XJ.ret1 rfl rfl [] (by exact kGives) ⟨?_, rfl⟩
      rfl
    ((first | refine kAj 17 ?_ | refine kAjS 17 ?_); (first | refine kAj 18 ?_ | refine kAjS 18 ?_); (first | refine kAj 19 ?_ | refine kAjS 19 ?_); (first | refine kAj 20 ?_ | refine kAjS 20 ?_); (first | refine kAj 21 ?_ | refine kAjS 21 ?_); (first | refine kAj 22 ?_ | refine kAjS 22 ?_); (first | refine kAj 23 ?_ | refine kAjS 23 ?_); (first | refine kAj 24 ?_ | refine kAjS 24 ?_); (first | refine kAj 25 ?_ | refine kAjS 25 ?_))
    cases f3 : C.shared name
    case true =>
      ((first | refine kAj 26 ?_ | refine kAjS 26 ?_); (first | refine kAj 27 ?_ | refine kAjS 27 ?_); (first | refine kAj 28 ?_ | refine kAjS 28 ?_); (first | refine kAj 29 ?_ | refine kAjS 29 ?_); (first | refine kAj 30 ?_ | refine kAjS 30 ?_); (first | refine kAj 31 ?_ | refine kAjS 31 ?_))
      (refine AJ.done (by kernel_rfl) (by kernel_rfl) rfl (by kernel_rfl) ?_)
      refine kAuto ?_
      refine XJ.ret1 rfl rfl [] (by exact kGives) ⟨?_, rfl⟩
      rfl
    ((first | refine kAj 26 ?_ | refine kAjS 26 ?_); (first | refine kAj 27 ?_ | refine kAjS 27 ?_); (first | refine kAj 28 ?_ | refine kAjS 28 ?_); (first | refine kAj 29 ?_ | refine kAjS 29 ?_); (first | refine kAj 30 ?_ | refine kAjS 30 ?_); (first | refine kAj 31 ?_ | refine kAjS 31 ?_))
    (refine AJ.done (by kernel_rfl) (by kernel_rfl) rfl (by kernel_rfl) ?_)
    refine kAuto ?_
    cases f4 : S.loops name
    · refine kAuto ?_
      refine XJ.ret1 rfl rfl [] (by exact kGives) ⟨?_, rfl⟩
      rfl
    · refine kAuto ?_
      refine XJ.ret1 rfl rfl [] (by exact kGives) ⟨?_, rfl⟩
      rfl
  have e42' : ¬ k = 42 := by simpa using e42
  refine kAuto ?_
  cases e46 : (k == 46)
  case true =>
    have e46' : k = 46 := by simpa using e46
    have hF : faultE C S k name place = (if !C.shared name then 6 else if S.held.length = 0 then 0 else 12) := by rw [faultE, if_neg e2', if_neg e3', if_neg e42', if_pos e46']
    rw [hF]
    refine kAuto ?_
    (refine CJ.draws mixed 8 _ (by exact kGives) (dom_of (by kernel_rfl)) ?_)
    ((first | refine kAj 0 ?_ | refine kAjS 0 ?_); (first | refine kAj 1 ?_ | refine kAjS 1 ?_); (first | refine kAj 2 ?_ | refine kAjS 2 ?_); (first | refine kAj 3 ?_ | refine kAjS 3 ?_); (first | refine kAj 4 ?_ | refine kAjS 4 ?_); (first | refine kAj 5 ?_ | refine kAjS 5 ?_); (first | refine kAj 6 ?_ | refine kAjS 6 ?_); (first | refine kAj 7 ?_ | refine kAjS 7 ?_))
    (refine AJ.done (by kernel_rfl) (by kernel_rfl) rfl (by kernel_rfl) ?_)
    refine kAuto ?_
    cases f1 : C.shared name
    case false =>
      refine kAuto ?_
      refine XJ.ret1 rfl rfl [] (by exact kGives) ⟨?_, rfl⟩
      rfl
    refine kAuto ?_
    cases f2 : decide ((S.held.length : Int) > 0)
    · have f2' : S.held.length = 0 := by have := of_decide_eq_false f2; omega
      refine kAuto ?_
      refine XJ.ret1 rfl rfl [] (by exact kGives) ⟨?_, rfl⟩
      simp [f2']
    · have f2' : ¬ S.held.length = 0 := by have := of_decide_eq_true f2; omega
      refine kAuto ?_
      refine XJ.ret1 rfl rfl [] (by exact kGives) ⟨?_, rfl⟩
      simp [f2']
  have e46' : ¬ k = 46 := by simpa using e46
  refine kAuto ?_
  refine XJ.ret1 rfl rfl [] (by exact kGives) ⟨?_, rfl⟩
  rw [faultE, if_neg e2', if_neg e3', if_neg e42', if_neg e46']
end Go.Proofs.YtgmapenlgammfaaGreatDoor

/- The package check: copies of lists and maps; a fault is added. -/
namespace Go.Proofs.YtgmapenlgammfaaGreatDoor
open Go
section
variable {P : Program} {w0 : World} {n : Nat} {ops : Array Oper} {Q : Exit → Act → World → Prop} {L : Env} {M : List HProp} {l : List Oper} {T : TypeId} {p : String} {af : Array Edge}
theorem RL.append {d : Nat} {t : TypeId} {s x : Operand} {E sz bytes : Nat} {zc : List Value} [k : AppT P t E sz bytes zc] {v u : Value} {q m : Nat} {xs news : List Value} {M' : List HProp} (hs : Ev L s v) (hx : Ev L x u) (hm : Takes M [row E sz v q xs] M') (hn : ∀ h, star M h → Src w0 M sz u m news) (h63 : q + m ≤ maxLen) (hb : (q + m) * bytes ≤ 140737488355328) (hd : Nat.blt d n = true)
    (kk : ∀ A c, RL P w0 n ops Q l ((d, .slice A (q + m) c) :: L) (row E sz (.slice A (q + m) c) (q + m) (xs ++ news) :: M')) : RL P w0 n ops Q (⟨some d, .call { callee := .builtin .append, args := #[s, x], argTypes := #[t, t] }, T, p, af, none⟩ :: l) L M :=
  RL.s (OpS.append hs hx hm hn h63 hb) hd (by rintro _ _ ⟨⟨A, c, rfl⟩, rfl⟩; exact kk A c) (fun _ _ h => h.elim)
theorem RL.clone {d : Nat} {f x : Operand} {k : FuncId} {t : TypeId} {r : Nat} {ts : Array TypeId} {m : ByteArray → Option Value} [c : CloneT P k] (hf : Ev L f (.func (.func k) #[] #[])) (hx : Ev L x (.iface t (.map (some r)))) (hm : HasMap w0 M Value.string r m) (hd : Nat.blt d n = true)
    (kk : ∀ r', RL P w0 n ops Q l ((d, .iface t (.map (some r'))) :: L) (mp Value.string r' m :: M)) : RL P w0 n ops Q (⟨some d, .call { callee := .value f, args := #[x], argTypes := ts }, T, p, af, none⟩ :: l) L M :=
  RL.s (OpS.clone hf hx hm) hd (by rintro _ _ ⟨r', rfl, rfl⟩; exact kk r') (fun _ _ h => h.elim)
end
theorem iclone_spec (w0 : World) (A : Option Addr) (n c : Nat) (xs : List Value) (hb : n ≤ 1000000000000) :
    Spec Tryz.prog w0 130 #[.slice A n c] [rrow 3 1 (.slice A n c) n xs] (Ret (fun v N => (∃ A l c, v = .slice A l c) ∧ N = [rrow 3 1 (.slice A n c) n xs]) noP) := by
  refine Spec.enter (args := [_]) Tryz.func130 rfl rfl rfl (fun F => ?_)
  refine kAuto ?_
  apply RL.pur; (apply OpP.eqNilSlice; exact kEv; exact kEv); exact rfl
  refine kAuto ?_
  cases A with
  | none =>
    refine kAuto ?_
    exact XJ.ret1 rfl rfl [_] (by exact kGives) ⟨⟨_, _, _, rfl⟩, rfl⟩
  | some ad =>
    refine kAuto ?_
    (apply RL.buildSlice; exact rfl; exact kEvl; exact rfl; (intro w; kernel_rfl); exact rfl; intro b)
    refine RL.gives (row_of_cel (n := 0) (sz := 1) rfl (by simp) (by decide) _) ?_
    refine kAuto ?_
    refine RL.append (by exact kEv) (by exact kEv) (Takes.here _ _) (fun h m => rrow_src (by exact kTake) m) (by simp only [maxLen]; omega) (by omega) rfl (fun A' c' => ?_)
    refine kAuto ?_
    exact XJ.ret1 rfl rfl [_] (by exact kGives) ⟨⟨_, _, _, rfl⟩, rfl⟩
theorem iclip_spec (w0 : World) (A : Option Addr) (n c : Nat) (hc : n ≤ c) : Spec Tryz.prog w0 134 #[.slice A n c] [] (Is (.slice A n n)) := by
  refine Spec.enter (args := [_]) Tryz.func134 rfl rfl rfl (fun F => ?_)
  refine kAuto ?_
  apply RL.pur; (apply OpP.clip; exact kEv; exact kEv; exact kEv; exact hc); exact rfl
  refine kAuto ?_
  exact XJ.ret1 rfl rfl [] (by exact kGives) ⟨rfl, rfl⟩
theorem sclip_spec (w0 : World) (A : Option Addr) (n c : Nat) (hc : n ≤ c) : Spec Tryz.prog w0 133 #[.slice A n c] [] (Is (.slice A n n)) := by
  refine Spec.enter (args := [_]) Tryz.func133 rfl rfl rfl (fun F => ?_)
  refine kAuto ?_
  apply RL.pur; (apply OpP.clip; exact kEv; exact kEv; exact kEv; exact hc); exact rfl
  refine kAuto ?_
  exact XJ.ret1 rfl rfl [] (by exact kGives) ⟨rfl, rfl⟩
theorem mclone_spec (w0 : World) (r : Nat) (m : ByteArray → Option Value) (pre : List HProp) (hm : ∀ M, HasMap w0 (pre ++ M) Value.string r m) :
    Spec Tryz.prog w0 91 #[.map (some r)] pre (Ret (fun v N => ∃ r', v = .map (some r') ∧ N = mp Value.string r' m :: pre) noP) := by
  refine Spec.enter (args := [_]) Tryz.func91 rfl rfl rfl (fun F => ?_)
  refine kAuto ?_
  apply RL.pur; (apply OpP.eqNilMap; exact kEv; exact kEv); exact rfl
  refine kAuto ?_
  refine RL.clone (by exact kEv) (by exact kEv) (hm _) rfl (fun r' => ?_)
  apply RL.pur; (apply OpP.typeAssert; exact kEv); exact rfl
  refine kAuto ?_
  exact XJ.ret1 rfl rfl (_ :: pre) (Gives.refl _) ⟨_, rfl, rfl⟩

theorem add_spec (w0 : World) (bc : Nat) (task : Int) (vv va vs : Value) (Ao : Option Addr) (k co : Nat) (xs : List Value) (Ap : Option Addr) (np cp : Nat) (ps : List Value) (e : Int) (name : ByteArray) (hk : k ≤ 100000000000) (hp : np ≤ 1000000000000) :
    Spec Tryz.prog w0 88 #[.pointer (some ⟨bc, 0, none⟩), .slice Ap np cp, .int .i64 e, .string name]
      [cel bc 166 [.int .i64 task, vv, va, vs, .slice Ao k co], row 212 4 (.slice Ao k co) k xs, rrow 3 1 (.slice Ap np cp) np ps]
      (Ret (fun v N => v = .tuple #[] ∧ ∃ A' c' xs', N = [cel bc 166 [.int .i64 task, vv, va, vs, .slice A' (k + 1) c'], row 212 4 (.slice A' (k + 1) c') (k + 1) xs', rrow 3 1 (.slice Ap np cp) np ps]) noP) := by
  refine Spec.enter (args := [_, _, _, _]) Tryz.func88 rfl rfl rfl (fun F => ?_)
  refine kAuto ?_
  (refine CJ.draws mixed 16 [cel bc _ _] (by exact kGives) (dom_of (by kernel_rfl)) ?_)
  ((first | refine kAj 0 ?_ | refine kAjS 0 ?_); (first | refine kAj 1 ?_ | refine kAjS 1 ?_); (first | refine kAj 2 ?_ | refine kAjS 2 ?_); (first | refine kAj 3 ?_ | refine kAjS 3 ?_); (first | refine kAj 4 ?_ | refine kAjS 4 ?_); (first | refine kAj 5 ?_ | refine kAjS 5 ?_); (first | refine kAj 6 ?_ | refine kAjS 6 ?_); (first | refine kAj 7 ?_ | refine kAjS 7 ?_); (first | refine kAj 8 ?_ | refine kAjS 8 ?_); (first | refine kAj 9 ?_ | refine kAjS 9 ?_))
  (first | refine kAj 11 ?_ | refine kAjS 11 ?_)
  (first | refine kAj 12 ?_ | refine kAjS 12 ?_)
  (refine AJ.loud1 (i := 10) (by kernel_rfl) (by kernel_rfl) rfl (by kernel_rfl) (by kernel_rfl) rfl rfl rfl rfl rfl rfl (OpS.call (by exact kEv) inferInstance (by exact kEvl) (Takes.there (Takes.there (Takes.here _ _))) (iclone_spec w0 Ap np cp ps hp)) ?_ ?_)
  · rintro _ _ ⟨N, ⟨⟨A1, l1, c1, rfl⟩, rfl⟩, rfl⟩
    refine ⟨by exact kGives, ?_⟩
    refine kAj 13 ?_
    (refine AJ.loud1 (i := 14) (by kernel_rfl) (by kernel_rfl) rfl (by kernel_rfl) (by kernel_rfl) rfl rfl rfl rfl rfl rfl (OpS.buildSlice (E := 212) [.int .i64 task, .slice A1 l1 c1, .int .i64 e, .string name] rfl (by exact kEvl) (fun w => by kernel_rfl)) ?_ ?_)
    · rintro _ _ ⟨b, rfl, rfl⟩
      refine ⟨by exact kGives, ?_⟩
      (refine AJ.loud1 (i := 15) (by kernel_rfl) (by kernel_rfl) rfl (by kernel_rfl) (by kernel_rfl) rfl rfl rfl rfl rfl rfl (OpS.append (m := 1) (news := [.int .i64 task, .slice A1 l1 c1, .int .i64 e, .string name]) (by exact kEv) (by exact kEv) (Takes.there (Takes.there (Takes.there (Takes.here _ _)))) (fun h m => ⟨rfl, by simp [Value.oneCell'], .inr ⟨_, _, _, rfl, HasAt.pt (Takes.here _ _) atAll⟩⟩) (by simp only [maxLen]; omega) (by omega)) ?_ ?_)
      · rintro _ _ ⟨⟨A2, c2, rfl⟩, rfl⟩
        refine ⟨by exact kGives, ?_⟩
        (refine AJ.tail (by kernel_rfl) (by kernel_rfl) rfl (by kernel_rfl) (by kernel_rfl) (by kernel_rfl) ?_)
        refine kAuto ?_
        (apply RL.store; exact kEv; exact kEv; exact kTake; exact rfl; exact rfl; exact rfl)
        refine kAuto ?_
        exact XJ.end0 rfl [_, _, _] (by exact kGives) ⟨rfl, _, _, _, rfl⟩
      · rintro _ _ h; exact h.elim
    · rintro _ _ h; exact h.elim
  · rintro _ _ ⟨_, h, _⟩; exact h.elim
end Go.Proofs.YtgmapenlgammfaaGreatDoor
