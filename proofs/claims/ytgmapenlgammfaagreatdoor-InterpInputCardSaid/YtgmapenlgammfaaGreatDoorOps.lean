/- The rules of the operations over the separation logic: what each operation gives in a known frame and memory. Plain lemmas, no statement of the program. -/
import Derived.Test.YtgmapenlgammfaaGreatDoorSl
import Derived.Laws.Strings
import Derived.Laws.Cells
import Derived.Laws.CopyRow
import Derived.Laws.Tables
set_option linter.all false
namespace Go.Proofs.YtgmapenlgammfaaGreatDoor
open Go Go.RowKit
attribute [local semireducible] Takes Gives Ev XJ CJ RL Spec pt ro

/-! ### types -/
class Sca (P : Program) (T : TypeId) : Prop where
  agg : ∀ w, (isAgg T).run P w = .ok false w
  sz : ∀ w, (sizeOf T).run P w = .ok 1 w
class AggT (P : Program) (T : TypeId) (k : outParam Nat) : Prop where
  agg : ∀ w, (isAgg T).run P w = .ok true w
  sz : ∀ w, (sizeOf T).run P w = .ok k w
class FldT (P : Program) (T f : Nat) (off FT : outParam Nat) : Prop where
  run : ∀ b o w, (Instr.fieldAt T (.pointer (some ⟨b, o, none⟩)) f).run P w = .ok (.pointer (some ⟨b, o + off, none⟩)) w
  val : ∀ cs w, (Instr.field T (.agg cs) f).run P w = (part FT cs off).run P w
class SliceT (P : Program) (T : TypeId) (E sz : outParam Nat) : Prop where
  und : P.underlying T = some (.slice E)
  sz : ∀ w, (sizeOf E).run P w = .ok sz w
class MapT (P : Program) (T : TypeId) (K E : outParam Nat) : Prop where
  und : P.underlying T = some (.map K E)
class ZeroT (P : Program) (T : TypeId) (z : outParam Value) : Prop where
  run : ∀ w, (zeroValue T).run P w = .ok z w
class CallT (P : Program) (f : FuncId) : Prop where
  run : ∀ args w, (callFunc f args).run P w = .ok (.enter f args) w
class NotIface (P : Program) (T : TypeId) : Prop where
  run : ∀ v w, (Instr.makeInterface T v).run P w = .ok (.iface T v) w

theorem run_info {P : Program} {T : TypeId} {i : TypeInfo} (h : P.info? T = some i) (w : World) : (typeInfo T).run P w = .ok i w := by
  simp [typeInfo, program, Sem.run, h]
theorem run_und {P : Program} {T : TypeId} {d : TypeDesc} (h : P.underlying T = some d) (w : World) : (underlying T).run P w = .ok d w := by
  simp [underlying, program, Sem.run, h]
def aggB (P : Program) (T : TypeId) : Option (Bool × Nat) :=
  match P.underlying T, P.info? T with
  | some (.struct _), some i => some (true, i.size)
  | some (.array _ _), some i => some (true, i.size)
  | some _, some i => some (false, i.size)
  | _, _ => none
theorem aggB_run {P : Program} {T : TypeId} {b : Bool} {k : Nat} (h : aggB P T = some (b, k)) (w : World) : (isAgg T).run P w = .ok b w ∧ (sizeOf T).run P w = .ok k w := by
  unfold aggB at h
  cases hu : P.underlying T with
  | none => rw [hu] at h; cases h
  | some d =>
    cases hi : P.info? T with
    | none => rw [hu, hi] at h; cases d <;> cases h
    | some i =>
      rw [hu, hi] at h
      refine ⟨?_, ?_⟩
      · simp only [isAgg, Sem.run_bind, run_und hu, Result.andThen_ok]
        cases d <;> (simp at h; obtain ⟨rfl, rfl⟩ := h; rfl)
      · simp only [sizeOf, Sem.run_bind, run_info hi, Result.andThen_ok, Sem.run_pure]
        cases d <;> (simp at h; obtain ⟨rfl, rfl⟩ := h; rfl)
theorem Sca.of {P : Program} {T : TypeId} (h : aggB P T = some (false, 1)) : Sca P T := ⟨fun w => (aggB_run h w).1, fun w => (aggB_run h w).2⟩
theorem AggT.of {P : Program} {T k : Nat} (h : aggB P T = some (true, k)) : AggT P T k := ⟨fun w => (aggB_run h w).1, fun w => (aggB_run h w).2⟩
def fldB (P : Program) (T f : Nat) : Option (Nat × Nat × Nat) :=
  match P.underlying T with
  | some (.struct fs) => match fs[f]? with
    | some fd => match P.info? fd.type with
      | some i => some (fd.offset, fd.type, i.size)
      | none => none
    | none => none
  | _ => none
theorem add_plain' (b o k : Nat) : (⟨b, o, none⟩ : Addr).add k = ⟨b, o + k, none⟩ := by unfold Addr.add; split <;> simp_all
theorem FldT.of {P : Program} {T f off FT : Nat} (k : Nat) (h : fldB P T f = some (off, FT, k + 1)) : FldT P T f off FT := by
  unfold fldB at h
  cases hu : P.underlying T with
  | none => rw [hu] at h; cases h
  | some d =>
    rw [hu] at h
    cases d <;> try (cases h; done)
    rename_i fs
    simp only at h
    cases hf : fs[f]? with
    | none => rw [hf] at h; cases h
    | some fd =>
      rw [hf] at h
      simp only at h
      cases hi : P.info? fd.type with
      | none => rw [hi] at h; cases h
      | some i =>
        rw [hi] at h
        simp only [Option.some.injEq, Prod.mk.injEq] at h
        obtain ⟨rfl, rfl, hk⟩ := h
        refine ⟨fun b o w => ?_, fun cs w => ?_⟩
        · simp only [Instr.fieldAt, Sem.run_bind, run_und hu, Result.andThen_ok, hf, Instr.sureAddr, Sem.run_pure, fieldPlace, sizeOf, run_info hi, hk]
          simp [add_plain']
        · simp only [Instr.field, Sem.run_bind, run_und hu, Result.andThen_ok, hf, asAgg, Sem.run_pure]
def sliceB (P : Program) (T : Nat) : Option (Nat × Nat) :=
  match P.underlying T with
  | some (.slice E) => match P.info? E with
    | some i => some (E, i.size)
    | none => none
  | _ => none
theorem SliceT.of {P : Program} {T E k : Nat} (h : sliceB P T = some (E, k)) : SliceT P T E k := by
  unfold sliceB at h
  cases hu : P.underlying T with
  | none => rw [hu] at h; cases h
  | some d =>
    rw [hu] at h
    cases d <;> try (cases h; done)
    rename_i e
    simp only at h
    cases hi : P.info? e with
    | none => rw [hi] at h; cases h
    | some i =>
      rw [hi] at h
      simp only [Option.some.injEq, Prod.mk.injEq] at h
      obtain ⟨rfl, rfl⟩ := h
      exact ⟨hu, fun w => by simp [sizeOf, run_info hi]⟩
def zeroB (P : Program) (T : Nat) : Option Value := (P.info? T).bind (·.zero)
theorem ZeroT.of {P : Program} {T : Nat} {z : Value} (h : zeroB P T = some z) : ZeroT P T z := by
  unfold zeroB at h
  cases hi : P.info? T with
  | none => rw [hi] at h; cases h
  | some i =>
    rw [hi] at h
    exact ⟨fun w => by simp only [zeroValue, Sem.run_bind, run_info hi, Result.andThen_ok]; simp at h; rw [h]; rfl⟩

def concB (P : Program) (T : TypeId) : Bool := match P.underlying T with
  | some (.interface _) => false
  | some _ => true
  | none => false
theorem NotIface.of {P : Program} {T : TypeId} (h : concB P T = true) : NotIface P T := by
  refine ⟨fun v w => ?_⟩
  unfold concB at h
  cases hu : P.underlying T with
  | none => rw [hu] at h; cases h
  | some d =>
    rw [hu] at h
    simp only [Instr.makeInterface, Sem.run_bind, run_und hu, Result.andThen_ok]
    cases d <;> first | rfl | (cases h)

/-! ### operations that only compute or read -/
def OpP (P : Program) (w0 : World) (L : Env) (M : List HProp) (o : Oper) (v : Value) : Prop :=
  ∀ n a w h, St n L a → star M h → Sat w0 w h → (execOp a.eval o).run P w = .ok (.value v) w
/-- Operands' values. -/
inductive EvL (L : Env) : List Operand → List Value → Prop
  | nil : EvL L [] []
  | cons {x : Operand} {v : Value} {xs : List Operand} {vs : List Value} : Ev L x v → EvL L xs vs → EvL L (x :: xs) (v :: vs)
theorem EvL.map {L : Env} {xs : List Operand} {vs : List Value} (h : EvL L xs vs) {n : Nat} {a : Act} (s : St n L a) : xs.map a.eval = vs := by
  induction h with
  | nil => rfl
  | cons e _ ih => simp [e n a s, ih]

section
variable {P : Program} {w0 : World} {L : Env} {M : List HProp} {d : Option Tmp} {T : TypeId} {p : String} {af : Array Edge} {g : Option (Nat × Bool)}

theorem OpP.move {x : Operand} {v : Value} (hx : Ev L x v) : OpP P w0 L M ⟨d, .move x, T, p, af, g⟩ v := fun n a w h s _ _ => by simp [execOp, hx n a s]
theorem OpP.assign {x : Operand} {v : Value} (hx : Ev L x v) : OpP P w0 L M ⟨d, .assign x, T, p, af, g⟩ v := fun n a w h s _ _ => by simp [execOp, hx n a s]
theorem OpP.pickT {c x y : Operand} {v : Value} (hc : Ev L c (.bool true)) (hx : Ev L x v) : OpP P w0 L M ⟨d, .pick c x y, T, p, af, g⟩ v := fun n a w h s _ _ => by simp [execOp, hc n a s, hx n a s, asBool]
theorem OpP.pickF {c x y : Operand} {v : Value} (hc : Ev L c (.bool false)) (hy : Ev L y v) : OpP P w0 L M ⟨d, .pick c x y, T, p, af, g⟩ v := fun n a w h s _ _ => by simp [execOp, hc n a s, hy n a s, asBool]
theorem OpP.fieldAddr {S f off FT : Nat} {x : Operand} {b o : Nat} [k : FldT P S f off FT] (hx : Ev L x (.pointer (some ⟨b, o, none⟩))) : OpP P w0 L M ⟨d, .fieldAddr S x f, T, p, af, g⟩ (.pointer (some ⟨b, o + off, none⟩)) :=
  fun n a w h s _ _ => by simp [execOp, hx n a s, k.run]
theorem OpP.nilCheck {x : Operand} {ad : Addr} (hx : Ev L x (.pointer (some ad))) : OpP P w0 L M ⟨d, .nilCheck x, T, p, af, g⟩ (.pointer (some ad)) :=
  fun n a w h s _ _ => by simp [execOp, hx n a s]
theorem OpP.makeFunc {fn : Fn} {xs ys : List Operand} {us vs : List Value} (hx : EvL L xs us) (hy : EvL L ys vs) : OpP P w0 L M ⟨d, .makeFunc fn xs.toArray ys.toArray, T, p, af, g⟩ (.func fn us.toArray vs.toArray) :=
  fun n a w h s _ _ => by simp [execOp, Instr.makeFunc, hx.map s, hy.map s]
theorem OpP.extract {x : Operand} {i : Nat} {vs : List Value} {v : Value} (hx : Ev L x (.tuple vs.toArray)) (hv : vs[i]? = some v) : OpP P w0 L M ⟨d, .extract x i, T, p, af, g⟩ v :=
  fun n a w h s _ _ => by simp [execOp, hx n a s, Instr.extract, hv]
theorem OpP.not {t : TypeId} {x : Operand} {b : Bool} (hx : Ev L x (.bool b)) : OpP P w0 L M ⟨d, .unOp .not t x, T, p, af, g⟩ (.bool (!b)) :=
  fun n a w h s _ _ => by simp [execOp, hx n a s, Op.unary]
theorem OpP.notT {t : TypeId} {x : Operand} (hx : Ev L x (.bool true)) : OpP P w0 L M ⟨d, .unOp .not t x, T, p, af, g⟩ (.bool false) := OpP.not hx
theorem OpP.notF {t : TypeId} {x : Operand} (hx : Ev L x (.bool false)) : OpP P w0 L M ⟨d, .unOp .not t x, T, p, af, g⟩ (.bool true) := OpP.not hx
theorem OpP.neg {t : TypeId} {x : Operand} {k : IntKind} {i : Int} (hx : Ev L x (.int k i)) : OpP P w0 L M ⟨d, .unOp .neg t x, T, p, af, g⟩ (.int k (k.wrap (0 - i))) :=
  fun n a w h s _ _ => by simp [execOp, hx n a s, Op.unary, Op.intArith]

/-! whole numbers -/
theorem eqGuard_int (op : BinOp) (t : TypeId) (x y : Operand) (k k' : IntKind) (i j : Int) (w : World) : (eqGuard op t x y (.int k i) (.int k' j)).run P w = .ok () w := by
  unfold eqGuard; cases op <;> rfl
theorem eqGuard_string (op : BinOp) (t : TypeId) (x y : Operand) (i j : ByteArray) (w : World) : (eqGuard op t x y (.string i) (.string j)).run P w = .ok () w := by
  unfold eqGuard; cases op <;> rfl
theorem OpP.eql {t u : TypeId} {x y : Operand} {k : IntKind} {i j : Int} (hx : Ev L x (.int k i)) (hy : Ev L y (.int k j)) : OpP P w0 L M ⟨d, .binOp .eql t x y u, T, p, af, g⟩ (.bool (i == j)) :=
  fun n a w h s _ _ => by simp [execOp, hx n a s, hy n a s, eqGuard_int, binOp, Op.intCmp]
theorem OpP.neq {t u : TypeId} {x y : Operand} {k : IntKind} {i j : Int} (hx : Ev L x (.int k i)) (hy : Ev L y (.int k j)) : OpP P w0 L M ⟨d, .binOp .neq t x y u, T, p, af, g⟩ (.bool (i != j)) :=
  fun n a w h s _ _ => by simp [execOp, hx n a s, hy n a s, eqGuard_int, binOp, Op.intCmp]
theorem OpP.lss {t u : TypeId} {x y : Operand} {k : IntKind} {i j : Int} (hx : Ev L x (.int k i)) (hy : Ev L y (.int k j)) : OpP P w0 L M ⟨d, .binOp .lss t x y u, T, p, af, g⟩ (.bool (decide (i < j))) :=
  fun n a w h s _ _ => by simp [execOp, hx n a s, hy n a s, eqGuard_int, binOp, Op.intCmp]
theorem OpP.leq {t u : TypeId} {x y : Operand} {k : IntKind} {i j : Int} (hx : Ev L x (.int k i)) (hy : Ev L y (.int k j)) : OpP P w0 L M ⟨d, .binOp .leq t x y u, T, p, af, g⟩ (.bool (decide (i ≤ j))) :=
  fun n a w h s _ _ => by simp [execOp, hx n a s, hy n a s, eqGuard_int, binOp, Op.intCmp]
theorem OpP.gtr {t u : TypeId} {x y : Operand} {k : IntKind} {i j : Int} (hx : Ev L x (.int k i)) (hy : Ev L y (.int k j)) : OpP P w0 L M ⟨d, .binOp .gtr t x y u, T, p, af, g⟩ (.bool (decide (i > j))) :=
  fun n a w h s _ _ => by simp [execOp, hx n a s, hy n a s, eqGuard_int, binOp, Op.intCmp]
theorem OpP.geq {t u : TypeId} {x y : Operand} {k : IntKind} {i j : Int} (hx : Ev L x (.int k i)) (hy : Ev L y (.int k j)) : OpP P w0 L M ⟨d, .binOp .geq t x y u, T, p, af, g⟩ (.bool (decide (i ≥ j))) :=
  fun n a w h s _ _ => by simp [execOp, hx n a s, hy n a s, eqGuard_int, binOp, Op.intCmp]
theorem OpP.add {t u : TypeId} {x y : Operand} {k : IntKind} {i j : Int} (hx : Ev L x (.int k i)) (hy : Ev L y (.int k j)) : OpP P w0 L M ⟨d, .binOp .add t x y u, T, p, af, g⟩ (.int k (k.wrap (i + j))) :=
  fun n a w h s _ _ => by simp [execOp, hx n a s, hy n a s, eqGuard_int, binOp, Op.intArith]
theorem OpP.sub {t u : TypeId} {x y : Operand} {k : IntKind} {i j : Int} (hx : Ev L x (.int k i)) (hy : Ev L y (.int k j)) : OpP P w0 L M ⟨d, .binOp .sub t x y u, T, p, af, g⟩ (.int k (k.wrap (i - j))) :=
  fun n a w h s _ _ => by simp [execOp, hx n a s, hy n a s, eqGuard_int, binOp, Op.intArith]
theorem OpP.mul {t u : TypeId} {x y : Operand} {k : IntKind} {i j : Int} (hx : Ev L x (.int k i)) (hy : Ev L y (.int k j)) : OpP P w0 L M ⟨d, .binOp .mul t x y u, T, p, af, g⟩ (.int k (k.wrap (i * j))) :=
  fun n a w h s _ _ => by simp [execOp, hx n a s, hy n a s, eqGuard_int, binOp, Op.intArith]
theorem OpP.quo {t u : TypeId} {x y : Operand} {k : IntKind} {i j : Int} (hx : Ev L x (.int k i)) (hy : Ev L y (.int k j)) (h0 : j ≠ 0) : OpP P w0 L M ⟨d, .binOp .quo t x y u, T, p, af, g⟩ (.int k (k.wrap (i.tdiv j))) :=
  fun n a w h s _ _ => by simp [execOp, hx n a s, hy n a s, eqGuard_int, binOp, Op.intDiv, h0]
theorem OpP.rem {t u : TypeId} {x y : Operand} {k : IntKind} {i j : Int} (hx : Ev L x (.int k i)) (hy : Ev L y (.int k j)) (h0 : j ≠ 0) : OpP P w0 L M ⟨d, .binOp .rem t x y u, T, p, af, g⟩ (.int k (i.tmod j)) :=
  fun n a w h s _ _ => by simp [execOp, hx n a s, hy n a s, eqGuard_int, binOp, Op.intDiv, h0]
def bitAnd (k : IntKind) (i j : Int) : Int := k.wrap (BitVec.ofInt k.bits i &&& BitVec.ofInt k.bits j).toNat
def bitOr (k : IntKind) (i j : Int) : Int := k.wrap (BitVec.ofInt k.bits i ||| BitVec.ofInt k.bits j).toNat
def bitXor (k : IntKind) (i j : Int) : Int := k.wrap (BitVec.ofInt k.bits i ^^^ BitVec.ofInt k.bits j).toNat
theorem OpP.and {t u : TypeId} {x y : Operand} {k : IntKind} {i j : Int} (hx : Ev L x (.int k i)) (hy : Ev L y (.int k j)) : OpP P w0 L M ⟨d, .binOp .and t x y u, T, p, af, g⟩ (.int k (bitAnd k i j)) :=
  fun n a w h s _ _ => by simp [execOp, hx n a s, hy n a s, eqGuard_int, binOp, Op.intBits, bitAnd]
theorem OpP.or {t u : TypeId} {x y : Operand} {k : IntKind} {i j : Int} (hx : Ev L x (.int k i)) (hy : Ev L y (.int k j)) : OpP P w0 L M ⟨d, .binOp .or t x y u, T, p, af, g⟩ (.int k (bitOr k i j)) :=
  fun n a w h s _ _ => by simp [execOp, hx n a s, hy n a s, eqGuard_int, binOp, Op.intBits, bitOr]
theorem OpP.xor {t u : TypeId} {x y : Operand} {k : IntKind} {i j : Int} (hx : Ev L x (.int k i)) (hy : Ev L y (.int k j)) : OpP P w0 L M ⟨d, .binOp .xor t x y u, T, p, af, g⟩ (.int k (bitXor k i j)) :=
  fun n a w h s _ _ => by simp [execOp, hx n a s, hy n a s, eqGuard_int, binOp, Op.intBits, bitXor]
def shlI (k : IntKind) (i j : Int) : Int := k.wrap (i * 2 ^ (min j.toNat k.bits))
def shrI (k : IntKind) (i j : Int) : Int := i.fdiv (2 ^ (min j.toNat k.bits))
theorem OpP.shl {t u : TypeId} {x y : Operand} {k k' : IntKind} {i j : Int} (hx : Ev L x (.int k i)) (hy : Ev L y (.int k' j)) (h0 : 0 ≤ j) : OpP P w0 L M ⟨d, .binOp .shl t x y u, T, p, af, g⟩ (.int k (shlI k i j)) :=
  fun n a w h s _ _ => by simp [execOp, hx n a s, hy n a s, eqGuard_int, binOp, Op.shift, shlI, show ¬ j < 0 by omega]
theorem OpP.shr {t u : TypeId} {x y : Operand} {k k' : IntKind} {i j : Int} (hx : Ev L x (.int k i)) (hy : Ev L y (.int k' j)) (h0 : 0 ≤ j) : OpP P w0 L M ⟨d, .binOp .shr t x y u, T, p, af, g⟩ (.int k (shrI k i j)) :=
  fun n a w h s _ _ => by simp [execOp, hx n a s, hy n a s, eqGuard_int, binOp, Op.shift, shrI, show ¬ j < 0 by omega]
class StrT (P : Program) (T : TypeId) : Prop where
  und : P.underlying T = some .string
theorem ba_data_inj {i j : ByteArray} (h : i.data.toList = j.data.toList) : i = j := by
  cases i with | mk i => cases j with | mk j =>
  congr 1
  exact Array.toList_inj.1 h
theorem OpP.sindex {t : TypeId} {x y : Operand} {b : ByteArray} {k : IntKind} {j : Nat} {c : Int} [q : StrT P t] (hx : Ev L x (.string b)) (hy : Ev L y (.int k (j : Int))) (hj : (b.data.toList[j]?).map (fun u => (u.toNat : Int)) = some c) :
    OpP P w0 L M ⟨d, .index t x y, T, p, af, g⟩ (.int .u8 c) := fun n a w h s _ _ => by
  obtain ⟨u, hu, rfl⟩ := Option.map_eq_some_iff.1 hj
  have hlt : j < b.size := by
    rcases Nat.lt_or_ge j b.size with h | h
    · exact h
    · rw [List.getElem?_eq_none (by simpa using h)] at hu; cases hu
  have e : b[j]? = some u := by
    have h1 : b[j]? = some b[j] := by simp [hlt]
    rw [h1]
    have h2 : b.data.toList[j]? = some (b[j]) := by
      rw [List.getElem?_eq_getElem (by simpa using hlt)]
      rfl
    rw [h2] at hu
    exact hu
  simp [execOp, hx n a s, hy n a s, Instr.index, asIntOf, run_und q.und, e]
theorem ba_eq (i j : ByteArray) : (i.toList == j.toList) = decide (i = j) := by
  rw [ByteArray.toList_eq, ByteArray.toList_eq, Bool.eq_iff_iff]
  simp only [beq_iff_eq, decide_eq_true_eq]
  exact ⟨ba_data_inj, fun h => by rw [h]⟩
theorem OpP.seql {t u : TypeId} {x y : Operand} {i j : ByteArray} (hx : Ev L x (.string i)) (hy : Ev L y (.string j)) : OpP P w0 L M ⟨d, .binOp .eql t x y u, T, p, af, g⟩ (.bool (decide (i = j))) :=
  fun n a w h s _ _ => by simp only [execOp, hx n a s, hy n a s, Sem.run_bind, eqGuard_string, binOp, Op.stringOp, Result.andThen_ok, Sem.run_pure, ba_eq]
theorem OpP.sneq {t u : TypeId} {x y : Operand} {i j : ByteArray} (hx : Ev L x (.string i)) (hy : Ev L y (.string j)) : OpP P w0 L M ⟨d, .binOp .neq t x y u, T, p, af, g⟩ (.bool (!decide (i = j))) :=
  fun n a w h s _ _ => by simp only [execOp, hx n a s, hy n a s, Sem.run_bind, eqGuard_string, binOp, Op.stringOp, Result.andThen_ok, Sem.run_pure, ba_eq]
class IntT (P : Program) (T : TypeId) (k : outParam IntKind) : Prop where
  und : P.underlying T = some (.int k)
class UndT (P : Program) (T : TypeId) : Prop where
  und : ∃ d, P.underlying T = some d
theorem OpP.convert {src dst : TypeId} {x : Operand} {k k' : IntKind} {i : Int} [q : UndT P src] [r : IntT P dst k] (hx : Ev L x (.int k' i)) : OpP P w0 L M ⟨d, .convert src dst x, T, p, af, g⟩ (.int k (k.wrap i)) :=
  fun n a w h s _ _ => by
    obtain ⟨dd, hd⟩ := q.und
    simp only [execOp, hx n a s, Go.convert, Sem.run_bind, run_und hd, run_und r.und, Result.andThen_ok]
    cases dd <;> simp [Conv.intToInt]

/-! slices -/
theorem OpP.len {ts : List TypeId} {t : TypeId} {x : Operand} {A : Option Addr} {l c E sz : Nat} [k : SliceT P t E sz] (hx : Ev L x (.slice A l c)) : OpP P w0 L M ⟨d, .call { callee := .builtin .len, args := #[x], argTypes := (t :: ts).toArray }, T, p, af, g⟩ (.int .i64 l) :=
  fun n a w h s _ _ => by simp [execOp, resolve, invoke, builtin, Builtin.len_, hx n a s, run_und k.und, goInt]
theorem OpP.slen {ts : List TypeId} {t : TypeId} {x : Operand} {b : ByteArray} [k : StrT P t] (hx : Ev L x (.string b)) : OpP P w0 L M ⟨d, .call { callee := .builtin .len, args := #[x], argTypes := (t :: ts).toArray }, T, p, af, g⟩ (.int .i64 b.size) :=
  fun n a w h s _ _ => by simp [execOp, resolve, invoke, builtin, Builtin.len_, hx n a s, run_und k.und, goInt]
/-- An element's address, the index a natural number. -/
theorem OpP.indexAddr {t : TypeId} {x i : Operand} {b o l c E sz : Nat} {k : IntKind} {j : Nat} [q : SliceT P t E sz] (hx : Ev L x (.slice (some ⟨b, o, none⟩) l c)) (hi : Ev L i (.int k (j : Int))) (hj : j < l) :
    OpP P w0 L M ⟨d, .indexAddr t x i, T, p, af, g⟩ (.pointer (some ⟨b, o + j * sz, none⟩)) :=
  fun n a w h s _ _ => by
    have h1 : (j : Int) < (l : Int) := by omega
    simp [execOp, hx n a s, hi n a s, Instr.indexAt, asIntOf, run_und q.und, q.sz, h1, add_plain', hj, show ¬ l ≤ j by omega]
/-- The same at a constant index. -/
theorem OpP.indexAddrC {t : TypeId} {x : Operand} {b o l c E sz : Nat} {k : IntKind} {z : Int} (j : Nat) [q : SliceT P t E sz] (hx : Ev L x (.slice (some ⟨b, o, none⟩) l c)) (hz : z = (j : Int)) (hj : j < l) (r : Nat) (hr : o + j * sz = r) :
    OpP P w0 L M ⟨d, .indexAddr t x (.const (.int k z)), T, p, af, g⟩ (.pointer (some ⟨b, r, none⟩)) := by
  subst hz; subst hr
  exact OpP.indexAddr hx Ev.const hj

/-! reads -/
/-- In every memory of M (over the base) the cells vs stand at block b from o on. -/
def HasAt (w0 : World) (M : List HProp) (b o : Nat) (vs : List Value) : Prop := ∀ w h, star M h → Sat w0 w h → ∀ j v, vs[j]? = some v → w.cell? ⟨b, o + j, none⟩ = some v
theorem HasAt.heap {w : World} {b o : Nat} {E : TypeId} {fr : Nat × Nat} {cs vs : List Value} (e : w.heap[b]? = some (.cells cs.toArray E fr)) (k : ∀ j v, vs[j]? = some v → cs[o + j]? = some v) : ∀ j v, vs[j]? = some v → w.cell? ⟨b, o + j, none⟩ = some v := by
  intro j v hv
  simp [World.cell?, e, k j v hv]
theorem HasAt.pt {b o : Nat} {E : TypeId} {fr : Nat × Nat} {cs vs : List Value} {M' : List HProp} (t : Takes M [Go.Proofs.YtgmapenlgammfaaGreatDoor.pt b (.cells cs.toArray E fr)] M') (k : ∀ j v, vs[j]? = some v → cs[o + j]? = some v) : HasAt w0 M b o vs :=
  fun _ h m s => HasAt.heap (s.pt (t h m)) k
theorem HasAt.ro {b o : Nat} {E : TypeId} {fr : Nat × Nat} {cs vs : List Value} {M' : List HProp} (t : Takes M [Go.Proofs.YtgmapenlgammfaaGreatDoor.ro b (.cells cs.toArray E fr)] M') (k : ∀ j v, vs[j]? = some v → cs[o + j]? = some v) : HasAt w0 M b o vs :=
  fun _ h m s => HasAt.heap (s.ro (t h m)) k
theorem HasAt.gives {b o : Nat} {vs : List Value} {M' : List HProp} (k : HasAt w0 M b o vs) (g : Gives M' M) : HasAt w0 M' b o vs := fun w h m s => k w h (g h m) s
theorem HasAt.app {b o : Nat} {vs : List Value} (k : HasAt w0 M b o vs) (F : List HProp) : HasAt w0 (M ++ F) b o vs := fun w h m s => by
  obtain ⟨h1, h2, l1, l2, _, m1, _⟩ := m.split
  exact k w h1 m1 (s.le l1)
theorem HasAt.sub {b o o' : Nat} {vs us : List Value} (k : HasAt w0 M b o vs) (e : ∀ j v, us[j]? = some v → ∃ i, o + i = o' + j ∧ vs[i]? = some v) : HasAt w0 M b o' us := fun w h m s j v hv => by
  obtain ⟨i, h1, h2⟩ := e j v hv
  rw [← h1]
  exact k w h m s i v h2
/-- Cells of the base. -/
def Base (w0 : World) (b o : Nat) (vs : List Value) : Prop := ∀ j v, vs[j]? = some v → w0.cell? ⟨b, o + j, none⟩ = some v
theorem cell_base {w0 w : World} {h : Frag} (s : Sat w0 w h) {ad : Addr} {v : Value} (e : w0.cell? ad = some v) : w.cell? ad = some v := by
  have hlt : ad.block < w0.heap.size := World.block_lt_of_cell? w0 ad e
  unfold World.cell? at e ⊢
  rw [s.base _ hlt]
  exact e
theorem HasAt.base {b o : Nat} {vs : List Value} (k : Base w0 b o vs) : HasAt w0 M b o vs := fun _ _ _ s j v hv => cell_base s (k j v hv)
theorem at1 {cs : List Value} {o : Nat} {v : Value} (h : cs[o]? = some v) : ∀ j u, [v][j]? = some u → cs[o + j]? = some u := by
  intro j u hu
  rcases j with _ | j
  · simp at hu; subst hu; simpa using h
  · simp at hu
theorem atAll {cs : List Value} : ∀ j u, cs[j]? = some u → cs[0 + j]? = some u := fun j u hu => by simpa using hu
theorem atSeg {cs vs : List Value} {o k : Nat} (h : (cs.drop o).take k = vs) : ∀ j u, vs[j]? = some u → cs[o + j]? = some u := by
  intro j u hu
  subst h
  have hj : j < k := by
    rcases Nat.lt_or_ge j k with x | x
    · exact x
    · rw [List.getElem?_take_eq_none x] at hu; cases hu
  rw [List.getElem?_take_of_lt hj, List.getElem?_drop] at hu
  exact hu

theorem run_loadVar_sca {w : World} {t b o : Nat} {v : Value} [k : Sca P t] (h : w.cell? ⟨b, o, none⟩ = some v) : (loadVar t ⟨b, o, none⟩).run P w = .ok v w := by
  simp [loadVar, k.agg, h]
theorem run_loadVar_agg {w : World} {t b o n : Nat} {vs : List Value} [k : AggT P t n] (hn : vs.length = n) (h : ∀ j v, vs[j]? = some v → w.cell? ⟨b, o + j, none⟩ = some v) : (loadVar t ⟨b, o, none⟩).run P w = .ok (.agg vs.toArray) w := by
  subst hn
  have := run_loadCells_list (P := P) w ⟨b, o, none⟩ vs (fun j v e => by rw [add_plain']; exact h j v e)
  simp [loadVar, k.agg, k.sz, this]
theorem OpP.load {t : TypeId} {x : Operand} {b o : Nat} {v : Value} [k : Sca P t] (hx : Ev L x (.pointer (some ⟨b, o, none⟩))) (hm : HasAt w0 M b o [v]) : OpP P w0 L M ⟨d, .load t x, T, p, af, g⟩ v :=
  fun n a w h s m sa => by
    have hc := hm w h m sa 0 v rfl
    simp [execOp, hx n a s, Instr.loadAt, Instr.sureAddr, run_loadVar_sca (P := P) (t := t) (by simpa using hc)]
theorem OpP.loadA {t : TypeId} {x : Operand} {b o q : Nat} {vs : List Value} [k : AggT P t q] (hx : Ev L x (.pointer (some ⟨b, o, none⟩))) (hm : HasAt w0 M b o vs) (hn : vs.length = q) : OpP P w0 L M ⟨d, .load t x, T, p, af, g⟩ (.agg vs.toArray) :=
  fun n a w h s m sa => by
    simp [execOp, hx n a s, Instr.loadAt, Instr.sureAddr, run_loadVar_agg (P := P) (t := t) hn (hm w h m sa)]
/-- A part of a block. -/
theorem OpP.loadSr {t : TypeId} {x : Operand} {b o q : Nat} {E : TypeId} {fr : Nat × Nat} {cs : List Value} {M' : List HProp} [k : AggT P t q] (hx : Ev L x (.pointer (some ⟨b, o, none⟩))) (hm : Takes M [Go.Proofs.YtgmapenlgammfaaGreatDoor.ro b (.cells cs.toArray E fr)] M') (hn : Nat.ble (o + q) cs.length = true) : OpP P w0 L M ⟨d, .load t x, T, p, af, g⟩ (.agg ((cs.drop o).take q).toArray) :=
  OpP.loadA hx (HasAt.ro hm (atSeg (k := q) rfl)) (by rw [List.length_take, List.length_drop]; exact Nat.min_eq_left (by have := Nat.le_of_ble_eq_true hn; omega))
theorem OpP.loadSp {t : TypeId} {x : Operand} {b o q : Nat} {E : TypeId} {fr : Nat × Nat} {cs : List Value} {M' : List HProp} [k : AggT P t q] (hx : Ev L x (.pointer (some ⟨b, o, none⟩))) (hm : Takes M [Go.Proofs.YtgmapenlgammfaaGreatDoor.pt b (.cells cs.toArray E fr)] M') (hn : Nat.ble (o + q) cs.length = true) : OpP P w0 L M ⟨d, .load t x, T, p, af, g⟩ (.agg ((cs.drop o).take q).toArray) :=
  OpP.loadA hx (HasAt.pt hm (atSeg (k := q) rfl)) (by rw [List.length_take, List.length_drop]; exact Nat.min_eq_left (by have := Nat.le_of_ble_eq_true hn; omega))
/-- A field of a value. -/
theorem OpP.field {S f off FT : Nat} {x : Operand} {cs : List Value} {v : Value} [k : FldT P S f off FT] [q : Sca P FT] (hx : Ev L x (.agg cs.toArray)) (hv : cs[off]? = some v) : OpP P w0 L M ⟨d, .field S x f, T, p, af, g⟩ v :=
  fun n a w h s _ _ => by simp [execOp, hx n a s, k.val, part, q.agg, hv]
theorem OpP.fieldA {S f off FT z : Nat} {x : Operand} {cs vs : List Value} [k : FldT P S f off FT] [q : AggT P FT z] (hx : Ev L x (.agg cs.toArray)) (hv : (cs.drop off).take z = vs) : OpP P w0 L M ⟨d, .field S x f, T, p, af, g⟩ (.agg vs.toArray) :=
  fun n a w h s _ _ => by
    subst hv
    simp [execOp, hx n a s, k.val, part, q.agg, q.sz]
theorem OpP.makeInterface {t : TypeId} {x : Operand} {v : Value} [k : NotIface P t] (hx : Ev L x v) : OpP P w0 L M ⟨d, .makeInterface t x, T, p, af, g⟩ (.iface t v) :=
  fun n a w h s _ _ => by simp [execOp, hx n a s, k.run]
theorem OpP.build {t : TypeId} {ps : List (Nat × Operand)} {xs : List Operand} {vs : List Value} {r : Value} (hx : EvL L xs vs) (hp : ps.map (·.2) = xs) (hr : ∀ w, (Instr.build t ((ps.map (·.1)).zip vs).toArray).run P w = .ok r w) : OpP P w0 L M ⟨d, .build t ps.toArray, T, p, af, g⟩ r :=
  fun n a w h s _ _ => by
    have e : ps.map (fun q => (q.1, a.eval q.2)) = (ps.map (·.1)).zip vs := by
      rw [← hx.map s, ← hp, List.map_map]
      clear hr hp
      induction ps with
      | nil => rfl
      | cons q r ih => simp_all
    have e' : (ps.toArray.map fun q => (q.1, a.eval q.2)) = ((ps.map (·.1)).zip vs).toArray := by simp [e]
    have hrr := hr w
    simp only [execOp]
    have e2 : (Array.map (fun x : Nat × Operand => match x with | (i, x) => (i, a.eval x)) ps.toArray) = ((ps.map (·.1)).zip vs).toArray := e'
    rw [e2]
    simp [hrr]
theorem OpP.buildA {t : TypeId} {ps : List (Nat × Operand)} {xs : List Operand} {vs : List Value} (hp : ps.map (·.2) = xs) (hx : EvL L xs vs) (hr : ∀ w, (Instr.build t ((ps.map (·.1)).zip vs).toArray).run P w = .ok (.agg vs.toArray) w) : OpP P w0 L M ⟨d, .build t ps.toArray, T, p, af, g⟩ (.agg vs.toArray) := OpP.build hx hp hr
end

/-! ### in a region in the text's order -/
section
variable {P : Program} {w0 : World} {n : Nat} {ops : Array Oper} {Q : Exit → Act → World → Prop} {L : Env} {M : List HProp} {l : List Oper} {op : Op} {T : TypeId} {p : String} {af : Array Edge}
theorem RL.pur {d : Nat} {v : Value} (hp : OpP P w0 L M ⟨some d, op, T, p, af, none⟩ v) (hd : Nat.blt d n = true) (k : RL P w0 n ops Q l ((d, v) :: L) M) : RL P w0 n ops Q (⟨some d, op, T, p, af, none⟩ :: l) L M :=
  fun a w h s m sa => wpList_plain rfl fun K hK => by
    have hr := hp n a w h s m sa
    simp only [Oper.wp, hr, Oper.upon]
    exact hK _ _ (k _ w h (s.put v hd) m sa)

/-- What an operation that may turn the memory comes to. -/
def ResS (P : Program) (w0 : World) (K : Value → List HProp → Prop) (KP : List PanicEntry → List HProp → Prop) : Result Next → Prop
  | .ok (.value v) w' => ∃ M' h', K v M' ∧ star M' h' ∧ Sat w0 w' h'
  | .ok .skip w' => ∃ M' h', K undef M' ∧ star M' h' ∧ Sat w0 w' h'
  | .ok (.enter f args) w' => Calls P f args w' fun
    | .returned v, w'' => ∃ M' h', K v M' ∧ star M' h' ∧ Sat w0 w'' h'
    | .panicked c, w'' => ∃ M' h', KP c M' ∧ star M' h' ∧ Sat w0 w'' h'
    | .outgrown, _ => False
  | .halt (.panic v) w' => ∃ M' h', KP [{ v, recovered := false }] M' ∧ star M' h' ∧ Sat w0 w' h'
  | _ => False
def OpS (P : Program) (w0 : World) (L : Env) (M : List HProp) (o : Oper) (K : Value → List HProp → Prop) (KP : List PanicEntry → List HProp → Prop) : Prop :=
  ∀ n a w h, St n L a → star M h → Sat w0 w h → ResS P w0 K KP ((execOp a.eval o).run P w)
/-- No panic. -/
abbrev noP : List PanicEntry → List HProp → Prop := fun _ _ => False

theorem upon_of {o : Oper} {a : Act} {next : Act → World → Prop} {Q : Exit → Act → World → Prop} {K : Value → List HProp → Prop} {KP : List PanicEntry → List HProp → Prop} {r : Result Next}
    (hr : ResS P w0 K KP r) (kn : ∀ v M' h' w', K v M' → star M' h' → Sat w0 w' h' → next (a.put o.dst v) w') (kp : ∀ c M' h' w', KP c M' → star M' h' → Sat w0 w' h' → Q (.panic c) a w') : o.upon P a next Q r := by
  cases r with
  | ok x w' =>
    cases x <;> simp only [ResS] at hr <;> try exact hr.elim
    · obtain ⟨M', h', k, m, s⟩ := hr; exact kn _ M' h' w' k m s
    · obtain ⟨M', h', k, m, s⟩ := hr; exact kn _ M' h' w' k m s
    · refine Calls.mono hr (fun e w'' he => ?_)
      cases e with
      | returned v => obtain ⟨M', h', k, m, s⟩ := he; exact kn _ M' h' w'' k m s
      | panicked c => obtain ⟨M', h', k, m, s⟩ := he; exact kp _ M' h' w'' k m s
      | outgrown => exact he.elim
  | halt x w' =>
    cases x <;> simp only [ResS] at hr <;> try exact hr.elim
    obtain ⟨M', h', k, m, s⟩ := hr
    exact kp _ M' h' w' k m s

theorem RL.s {d : Nat} {K : Value → List HProp → Prop} {KP : List PanicEntry → List HProp → Prop} (hp : OpS P w0 L M ⟨some d, op, T, p, af, none⟩ K KP) (hd : Nat.blt d n = true)
    (k : ∀ v M', K v M' → RL P w0 n ops Q l ((d, v) :: L) M') (kp : ∀ c M', KP c M' → XJ w0 n (.panic c) Q L M') : RL P w0 n ops Q (⟨some d, op, T, p, af, none⟩ :: l) L M :=
  fun a w h s m sa => wpList_plain rfl fun K hK => by
    unfold Oper.wp
    exact upon_of (hp n a w h s m sa) (fun v M' h' w' kk mm ss => hK _ _ (k v M' kk _ w' h' (s.put v hd) mm ss)) (fun c M' h' w' kk mm ss => kp c M' kk a w' h' s mm ss)
theorem RL.s0 {K : Value → List HProp → Prop} {KP : List PanicEntry → List HProp → Prop} (hp : OpS P w0 L M ⟨none, op, T, p, af, none⟩ K KP)
    (k : ∀ v M', K v M' → RL P w0 n ops Q l L M') (kp : ∀ c M', KP c M' → XJ w0 n (.panic c) Q L M') : RL P w0 n ops Q (⟨none, op, T, p, af, none⟩ :: l) L M :=
  fun a w h s m sa => wpList_plain rfl fun K hK => by
    unfold Oper.wp
    exact upon_of (hp n a w h s m sa) (fun v M' h' w' kk mm ss => hK _ _ (k v M' kk _ w' h' s mm ss)) (fun c M' h' w' kk mm ss => kp c M' kk a w' h' s mm ss)

/-! guards -/
theorem RL.guardT {d : Option Tmp} {j t : Nat} {b : Bool} (hj : (ops[j]?).bind (·.dst) = some t) (ht : L.get t = some (.bool b)) (k : RL P w0 n ops Q (⟨d, op, T, p, af, none⟩ :: l) L M) : RL P w0 n ops Q (⟨d, op, T, p, af, some (j, b)⟩ :: l) L M :=
  fun a w h s m sa => by
    have hk := k a w h s m sa
    unfold wpList at hk ⊢
    have hw : Region.wanted ⟨d, op, T, p, af, some (j, b)⟩ (yielded ops a.tmps) = true := by
      simp [Region.wanted, yielded, hj, s.ok t _ ht]
    rw [if_pos hw]
    rw [if_pos (by simp [Region.wanted])] at hk
    exact hk
theorem RL.guardF {d j t : Nat} {b b' : Bool} (hj : (ops[j]?).bind (·.dst) = some t) (ht : L.get t = some (.bool b)) (hb : (b == b') = false) (hd : Nat.blt d n = true) (k : RL P w0 n ops Q l ((d, undef) :: L) M) : RL P w0 n ops Q (⟨some d, op, T, p, af, some (j, b')⟩ :: l) L M :=
  fun a w h s m sa => by
    have hne : b ≠ b' := by simpa using hb
    unfold wpList
    have hw : ¬ Region.wanted ⟨some d, op, T, p, af, some (j, b')⟩ (yielded ops a.tmps) = true := by
      simp [Region.wanted, yielded, hj, s.ok t _ ht, hne]
    rw [if_neg hw]
    exact k _ w h (s.put undef hd) m sa
end

section
variable {P : Program} {w0 : World} {n : Nat} {ops : Array Oper} {Q : Exit → Act → World → Prop} {L : Env} {M : List HProp} {l : List Oper} {op : Op} {T : TypeId} {p : String} {af : Array Edge}
/-- The guard's own operation was passed over. -/
theorem RL.guardU {d j t : Nat} {b' : Bool} (hj : (ops[j]?).bind (·.dst) = some t) (ht : L.get t = some undef) (hd : Nat.blt d n = true) (k : RL P w0 n ops Q l ((d, undef) :: L) M) : RL P w0 n ops Q (⟨some d, op, T, p, af, some (j, b')⟩ :: l) L M :=
  fun a w h s m sa => by
    unfold wpList
    have hw : ¬ Region.wanted ⟨some d, op, T, p, af, some (j, b')⟩ (yielded ops a.tmps) = true := by
      simp [Region.wanted, yielded, hj, s.ok t _ ht, undef]
    rw [if_neg hw]
    exact k _ w h (s.put undef hd) m sa
end

/-! ### operations that turn the memory -/
section
variable {P : Program} {w0 : World} {L : Env} {M : List HProp} {d : Option Tmp} {T : TypeId} {p : String} {af : Array Edge} {g : Option (Nat × Bool)}
/-- What holds behind. -/
theorem OpS.mono {o : Oper} {K K' : Value → List HProp → Prop} {KP KP' : List PanicEntry → List HProp → Prop} (h : OpS P w0 L M o K KP) (k : ∀ v M', K v M' → K' v M') (kp : ∀ c M', KP c M' → KP' c M') : OpS P w0 L M o K' KP' := by
  intro n a w hh s m sa
  have := h n a w hh s m sa
  generalize (execOp a.eval o).run P w = r at this ⊢
  cases r with
  | ok x w' =>
    cases x <;> simp only [ResS] at this ⊢ <;> try exact this.elim
    · obtain ⟨M', h', kk, mm, ss⟩ := this; exact ⟨M', h', k _ _ kk, mm, ss⟩
    · obtain ⟨M', h', kk, mm, ss⟩ := this; exact ⟨M', h', k _ _ kk, mm, ss⟩
    · refine Calls.mono this (fun e w'' he => ?_)
      cases e with
      | returned v => obtain ⟨M', h', kk, mm, ss⟩ := he; exact ⟨M', h', k _ _ kk, mm, ss⟩
      | panicked c => obtain ⟨M', h', kk, mm, ss⟩ := he; exact ⟨M', h', kp _ _ kk, mm, ss⟩
      | outgrown => exact he.elim
  | halt x w' =>
    cases x <;> simp only [ResS] at this ⊢ <;> try exact this.elim
    obtain ⟨M', h', kk, mm, ss⟩ := this
    exact ⟨M', h', kp _ _ kk, mm, ss⟩
theorem OpS.box {t : TypeId} {x : Operand} {vs : List Value} (hx : Ev L x (.agg vs.toArray)) : OpS P w0 L M ⟨d, .box t x, T, p, af, g⟩ (fun v M' => ∃ b, v = .pointer (some ⟨b, 0, none⟩) ∧ M' = cel b t vs :: M) noP :=
  fun n a w h s m sa => by
    obtain ⟨h', m', s'⟩ := sa.push m (.cells vs.toArray t (0, 0))
    simp only [execOp, Instr.box, newVar, newRow, newObj, Sem.run_bind, Sem.run, Result.andThen_ok, hx n a s, Value.cells, Sem.run_pure, Sem.run_pure', ResS]
    exact ⟨_, h', ⟨_, rfl, rfl⟩, m', s'⟩
theorem OpS.box1 {t : TypeId} {x : Operand} {v : Value} (hx : Ev L x v) (hv : v.cells = #[v]) : OpS P w0 L M ⟨d, .box t x, T, p, af, g⟩ (fun u M' => ∃ b, u = .pointer (some ⟨b, 0, none⟩) ∧ M' = cel b t [v] :: M) noP :=
  fun n a w h s m sa => by
    obtain ⟨h', m', s'⟩ := sa.push m (.cells #[v] t (0, 0))
    simp only [execOp, Instr.box, newVar, newRow, newObj, Sem.run_bind, Sem.run, Result.andThen_ok, hx n a s, hv, Sem.run_pure, Sem.run_pure', ResS]
    exact ⟨_, h', ⟨_, rfl, rfl⟩, m', s'⟩
theorem OpS.alloc {t : TypeId} {vs : List Value} {z : Value} [k : ZeroT P t z] (hz : z.cells = vs.toArray) : OpS P w0 L M ⟨d, .alloc t, T, p, af, g⟩ (fun u M' => ∃ b, u = .pointer (some ⟨b, 0, none⟩) ∧ M' = cel b t vs :: M) noP :=
  fun n a w h s m sa => by
    obtain ⟨h', m', s'⟩ := sa.push m (.cells vs.toArray t (0, 0))
    simp only [execOp, Instr.alloc, newVar, newRow, newObj, Sem.run_bind, Sem.run, Result.andThen_ok, k.run, hz, Sem.run_pure, Sem.run_pure', ResS]
    exact ⟨_, h', ⟨_, rfl, rfl⟩, m', s'⟩
/-- A store into a block of one's own. -/
def setSeg (cs vs : List Value) (o : Nat) : List Value := cs.take o ++ vs ++ cs.drop (o + vs.length)
theorem run_storeVar_at {w : World} {t b o q : Nat} {E : TypeId} {cs vs : List Value} {v : Value} (hq : (sizeOf t).run P w = .ok q w) (hv : v.cells = vs.toArray) (hn : vs.length = q) (h1 : ∀ u ∈ vs, u.oneCell' = true) (hb : w.heap[b]? = some (.cells cs.toArray E (0, 0))) (hl : o + vs.length ≤ cs.length) :
    (storeVar t ⟨b, o, none⟩ v).run P w = .ok () (w.setRow b (setSeg cs vs o).toArray) := by
  have hs := run_storeCells_at (P := P) b o E vs 0 cs.toArray w hb (by simpa using hl) h1
  simp only [Nat.add_zero] at hs
  subst hn
  simp only [storeVar, Sem.run_bind, hq, Result.andThen_ok, hv]
  simpa [setSeg] using hs
theorem Sat.setRow {w : World} {h : Frag} {b : Nat} {E : TypeId} {cs cs' : List Value} {M' : List HProp} (s : Sat w0 w h) (m : star (cel b E cs :: M') h) : ∃ h', star (cel b E cs' :: M') h' ∧ Sat w0 (w.setRow b cs'.toArray) h' := by
  have hb := s.pt m
  refine s.put m rfl rfl rfl ?_ ?_ ?_
  · simp [World.setRow]
  · intro i hi
    simp [World.setRow, Array.getElem?_modify, Ne.symm hi]
  · exact setRow_heap w b _ _ E (0, 0) hb
theorem OpS.store {t : TypeId} {x y : Operand} {b o : Nat} {E : TypeId} {cs : List Value} {v : Value} {M' : List HProp} [k : Sca P t] (hx : Ev L x (.pointer (some ⟨b, o, none⟩))) (hy : Ev L y v) (hv : v.cells = #[v]) (h1 : v.oneCell' = true) (hm : Takes M [cel b E cs] M') (ho : o < cs.length) :
    OpS P w0 L M ⟨d, .store t x y, T, p, af, g⟩ (fun _ M'' => M'' = cel b E (setSeg cs [v] o) :: M') noP :=
  fun n a w h s m sa => by
    have hr := run_storeVar_at (P := P) (o := o) (k.sz w) (show v.cells = [v].toArray from hv) rfl (by simpa using h1) (sa.pt (hm h m)) (by simp; omega)
    obtain ⟨h', m', s'⟩ := sa.setRow (cs' := setSeg cs [v] o) (hm h m)
    simp only [execOp, hx n a s, hy n a s, Instr.storeAt, Instr.sureAddr, Sem.run_bind, Sem.run_pure, Result.andThen_ok, hr, ResS]
    exact ⟨_, h', rfl, m', s'⟩
theorem OpS.storeA {t : TypeId} {x y : Operand} {b o q : Nat} {E : TypeId} {cs vs : List Value} {M' : List HProp} [k : AggT P t q] (hx : Ev L x (.pointer (some ⟨b, o, none⟩))) (hy : Ev L y (.agg vs.toArray)) (hn : vs.length = q) (h1 : ∀ u ∈ vs, u.oneCell' = true) (hm : Takes M [cel b E cs] M') (ho : o + q ≤ cs.length) :
    OpS P w0 L M ⟨d, .store t x y, T, p, af, g⟩ (fun _ M'' => M'' = cel b E (setSeg cs vs o) :: M') noP :=
  fun n a w h s m sa => by
    have hr := run_storeVar_at (P := P) (o := o) (v := .agg vs.toArray) (k.sz w) rfl hn h1 (sa.pt (hm h m)) (by omega)
    obtain ⟨h', m', s'⟩ := sa.setRow (cs' := setSeg cs vs o) (hm h m)
    simp only [execOp, hx n a s, hy n a s, Instr.storeAt, Instr.sureAddr, Sem.run_bind, Sem.run_pure, Result.andThen_ok, hr, ResS]
    exact ⟨_, h', rfl, m', s'⟩

/-- A slice literal: vs' are the cells of its elements. -/
theorem OpS.buildSlice {t E : TypeId} {len : Nat} {ps : List (Nat × Operand)} {xs : List Operand} {vs : List Value} (vs' : List Value) (hp : ps.map (·.2) = xs) (hx : EvL L xs vs)
    (hr : ∀ w : World, (Instr.buildSlice t len ((ps.map (·.1)).zip vs).toArray).run P w = .ok (.slice (some ⟨w.heap.size, 0, none⟩) len len) { w with heap := w.heap.push (.cells vs'.toArray E (0, 0)) }) :
    OpS P w0 L M ⟨d, .buildSlice t len ps.toArray, T, p, af, g⟩ (fun v N => ∃ b, v = .slice (some ⟨b, 0, none⟩) len len ∧ N = cel b E vs' :: M) noP :=
  fun n a w h s m sa => by
    have e : ps.map (fun q => (q.1, a.eval q.2)) = (ps.map (·.1)).zip vs := by
      rw [← hx.map s, ← hp, List.map_map]
      clear hr hp
      induction ps with
      | nil => rfl
      | cons q r ih => simp_all
    have e' : (ps.toArray.map fun q => (q.1, a.eval q.2)) = ((ps.map (·.1)).zip vs).toArray := by simp [e]
    have hrr := hr w
    have e2 : (Array.map (fun x : Nat × Operand => match x with | (i, x) => (i, a.eval x)) ps.toArray) = ((ps.map (·.1)).zip vs).toArray := e'
    obtain ⟨h', m', s'⟩ := sa.push m (.cells vs'.toArray E (0, 0))
    simp only [execOp]
    rw [e2]
    simp only [Sem.run_bind, hrr, Result.andThen_ok, Sem.run_pure, ResS]
    exact ⟨_, h', ⟨_, rfl, rfl⟩, m', s'⟩
/-! calls -/
def Ret (K : Value → List HProp → Prop) (KP : List PanicEntry → List HProp → Prop) : Ending → List HProp → Prop
  | .returned v, N => K v N
  | .panicked c, N => KP c N
  | .outgrown, _ => False
theorem OpS.call {f : Operand} {k : FuncId} {first cap : List Value} {xs : List Operand} {vs : List Value} {ts : Array TypeId} {K : Value → List HProp → Prop} {KP : List PanicEntry → List HProp → Prop} {pre M' : List HProp} 
    (hf : Ev L f (.func (.func k) first.toArray cap.toArray)) (c : CallT P k) (hx : EvL L xs vs) (hm : Takes M pre M') (hs : Spec P w0 k (first ++ vs ++ cap).toArray pre (Ret K KP)) :
    OpS P w0 L M ⟨d, .call { callee := .value f, args := xs.toArray, argTypes := ts }, T, p, af, g⟩ (fun v N => ∃ N', K v N' ∧ N = N' ++ M') (fun c N => ∃ N', KP c N' ∧ N = N' ++ M') :=
  fun n a w h s m sa => by
    have e : (execOp a.eval ⟨d, .call { callee := .value f, args := xs.toArray, argTypes := ts }, T, p, af, g⟩).run P w = .ok (.enter k (first ++ vs ++ cap).toArray) w := by
      simp [execOp, resolve, Deferred.ofValue, hf n a s, invoke, c.run, hx.map s]
    rw [e]
    simp only [ResS]
    refine (hs M' w h (hm h m) sa).mono ?_
    rintro e w' ⟨N, h', r, m', s'⟩
    cases e with
    | returned v => exact ⟨_, h', ⟨N, r, rfl⟩, m', s'⟩
    | panicked c => exact ⟨_, h', ⟨N, r, rfl⟩, m', s'⟩
    | outgrown => exact r.elim
/-- The contract of a function that only computes: it returns x. -/
abbrev Is (x : Value) : Ending → List HProp → Prop := Ret (fun v N => v = x ∧ N = []) noP
/-- It returns or panics, as r says. -/
abbrev IsE (r : Except (List PanicEntry) Value) : Ending → List HProp → Prop := Ret (fun v N => r = .ok v ∧ N = []) (fun c N => r = .error c ∧ N = [])
theorem OpS.callIs {f : Operand} {k : FuncId} {first cap : List Value} {xs : List Operand} {vs : List Value} {ts : Array TypeId} {x : Value} 
    (hf : Ev L f (.func (.func k) first.toArray cap.toArray)) (c : CallT P k) (hx : EvL L xs vs) (hs : Spec P w0 k (first ++ vs ++ cap).toArray [] (Is x)) :
    OpS P w0 L M ⟨d, .call { callee := .value f, args := xs.toArray, argTypes := ts }, T, p, af, g⟩ (fun v N => v = x ∧ N = M) noP :=
  (OpS.call hf c hx (Takes.nil _) hs).mono (fun v M' ⟨N', ⟨h1, h2⟩, h3⟩ => ⟨h1, by subst h2; simpa using h3⟩) (fun _ _ ⟨_, h, _⟩ => h)
theorem OpS.callE {f : Operand} {k : FuncId} {first cap : List Value} {xs : List Operand} {vs : List Value} {ts : Array TypeId} {r : Except (List PanicEntry) Value} 
    (hf : Ev L f (.func (.func k) first.toArray cap.toArray)) (c : CallT P k) (hx : EvL L xs vs) (hs : Spec P w0 k (first ++ vs ++ cap).toArray [] (IsE r)) :
    OpS P w0 L M ⟨d, .call { callee := .value f, args := xs.toArray, argTypes := ts }, T, p, af, g⟩ (fun v N => r = .ok v ∧ N = M) (fun c N => r = .error c ∧ N = M) :=
  (OpS.call hf c hx (Takes.nil _) hs).mono (fun v M' ⟨N', ⟨h1, h2⟩, h3⟩ => ⟨h1, by subst h2; simpa using h3⟩) (fun c M' ⟨N', ⟨h1, h2⟩, h3⟩ => ⟨h1, by subst h2; simpa using h3⟩)
theorem OpS.panic {x : Operand} {t : TypeId} {v : Value} (hx : Ev L x (.iface t v)) (hr : ∀ w, (Instr.panic (.iface t v)).run P w = .halt (.panic (.iface t v)) w) : OpS P w0 L M ⟨d, .panic x, T, p, af, g⟩ (fun _ _ => False) (fun c N => c = [{ v := .iface t v, recovered := false }] ∧ N = M) :=
  fun n a w h s m sa => by
    have e : (execOp a.eval ⟨d, .panic x, T, p, af, g⟩).run P w = .halt (.panic (.iface t v)) w := by simp only [execOp, hx n a s, Sem.run_bind, hr, Result.andThen_halt]
    rw [e]
    exact ⟨M, h, ⟨rfl, rfl⟩, m, sa⟩
end

section
variable {P : Program} {w0 : World} {n : Nat} {ops : Array Oper} {Q : Exit → Act → World → Prop} {L : Env} {M : List HProp} {l : List Oper} {T : TypeId} {p : String} {af : Array Edge}
theorem RL.callIs {d : Nat} {f : Operand} {k : FuncId} {first cap : List Value} {xs : List Operand} {vs : List Value} {ts : Array TypeId} {x : Value} 
    (hf : Ev L f (.func (.func k) first.toArray cap.toArray)) (c : CallT P k) (hx : EvL L xs vs) (hs : Spec P w0 k (first ++ vs ++ cap).toArray [] (Is x)) (hd : Nat.blt d n = true) (kk : RL P w0 n ops Q l ((d, x) :: L) M) :
    RL P w0 n ops Q (⟨some d, .call { callee := .value f, args := xs.toArray, argTypes := ts }, T, p, af, none⟩ :: l) L M :=
  RL.s (OpS.callIs hf c hx hs) hd (by rintro _ _ ⟨rfl, rfl⟩; exact kk) (fun _ _ h => h.elim)
theorem RL.callK {d : Nat} {f : Operand} {k : FuncId} {first cap : List Value} {xs : List Operand} {vs : List Value} {ts : Array TypeId} {K : Value → List HProp → Prop} {pre M' : List HProp}
    (hf : Ev L f (.func (.func k) first.toArray cap.toArray)) (c : CallT P k) (hx : EvL L xs vs) (hm : Takes M pre M') (hs : Spec P w0 k (first ++ vs ++ cap).toArray pre (Ret K noP)) (hd : Nat.blt d n = true)
    (kk : ∀ v N, K v N → RL P w0 n ops Q l ((d, v) :: L) (N ++ M')) :
    RL P w0 n ops Q (⟨some d, .call { callee := .value f, args := xs.toArray, argTypes := ts }, T, p, af, none⟩ :: l) L M :=
  RL.s (OpS.call hf c hx hm hs) hd (by rintro _ _ ⟨N', h, rfl⟩; exact kk _ _ h) (by rintro _ _ ⟨_, h, _⟩; exact h.elim)
theorem RL.callKP {d : Nat} {f : Operand} {k : FuncId} {first cap : List Value} {xs : List Operand} {vs : List Value} {ts : Array TypeId} {K : Value → List HProp → Prop} {KP : List PanicEntry → List HProp → Prop} {pre M' : List HProp}
    (hf : Ev L f (.func (.func k) first.toArray cap.toArray)) (c : CallT P k) (hx : EvL L xs vs) (hm : Takes M pre M') (hs : Spec P w0 k (first ++ vs ++ cap).toArray pre (Ret K KP)) (hd : Nat.blt d n = true)
    (kk : ∀ v N, K v N → RL P w0 n ops Q l ((d, v) :: L) (N ++ M')) (kp : ∀ c N, KP c N → XJ w0 n (.panic c) Q L (N ++ M')) :
    RL P w0 n ops Q (⟨some d, .call { callee := .value f, args := xs.toArray, argTypes := ts }, T, p, af, none⟩ :: l) L M :=
  RL.s (OpS.call hf c hx hm hs) hd (by rintro _ _ ⟨N', h, rfl⟩; exact kk _ _ h) (by rintro _ _ ⟨N', h, rfl⟩; exact kp _ _ h)
theorem RL.callE {d : Nat} {f : Operand} {k : FuncId} {first cap : List Value} {xs : List Operand} {vs : List Value} {ts : Array TypeId} {r : Except (List PanicEntry) Value} 
    (hf : Ev L f (.func (.func k) first.toArray cap.toArray)) (c : CallT P k) (hx : EvL L xs vs) (hs : Spec P w0 k (first ++ vs ++ cap).toArray [] (IsE r)) (hd : Nat.blt d n = true)
    (kk : ∀ v, r = .ok v → RL P w0 n ops Q l ((d, v) :: L) M) (kp : ∀ c, r = .error c → XJ w0 n (.panic c) Q L M) :
    RL P w0 n ops Q (⟨some d, .call { callee := .value f, args := xs.toArray, argTypes := ts }, T, p, af, none⟩ :: l) L M :=
  RL.s (OpS.callE hf c hx hs) hd (by rintro _ _ ⟨h, rfl⟩; exact kk _ h) (by rintro _ _ ⟨h, rfl⟩; exact kp _ h)
theorem RL.box {d : Nat} {t : TypeId} {x : Operand} {vs : List Value} (hx : Ev L x (.agg vs.toArray)) (hd : Nat.blt d n = true) (k : ∀ b, RL P w0 n ops Q l ((d, .pointer (some ⟨b, 0, none⟩)) :: L) (cel b t vs :: M)) :
    RL P w0 n ops Q (⟨some d, .box t x, T, p, af, none⟩ :: l) L M :=
  RL.s (OpS.box hx) hd (by rintro _ _ ⟨b, rfl, rfl⟩; exact k b) (fun _ _ h => h.elim)
/-- A parameter's box that nobody writes: read-only from the first. -/
theorem RL.boxR {d : Nat} {t : TypeId} {x : Operand} {vs : List Value} (hx : Ev L x (.agg vs.toArray)) (hd : Nat.blt d n = true) (k : ∀ b, RL P w0 n ops Q l ((d, .pointer (some ⟨b, 0, none⟩)) :: L) (rcel b t vs :: M)) :
    RL P w0 n ops Q (⟨some d, .box t x, T, p, af, none⟩ :: l) L M := RL.box hx hd fun b => RL.freeze (Takes.here _ _) (k b)
theorem RL.box1 {d : Nat} {t : TypeId} {x : Operand} {v : Value} (hx : Ev L x v) (hv : v.cells = #[v]) (hd : Nat.blt d n = true) (k : ∀ b, RL P w0 n ops Q l ((d, .pointer (some ⟨b, 0, none⟩)) :: L) (cel b t [v] :: M)) :
    RL P w0 n ops Q (⟨some d, .box t x, T, p, af, none⟩ :: l) L M :=
  RL.s (OpS.box1 hx hv) hd (by rintro _ _ ⟨b, rfl, rfl⟩; exact k b) (fun _ _ h => h.elim)
theorem RL.alloc {d : Nat} {t : TypeId} {vs : List Value} {z : Value} [q : ZeroT P t z] (hz : z.cells = vs.toArray) (hd : Nat.blt d n = true) (k : ∀ b, RL P w0 n ops Q l ((d, .pointer (some ⟨b, 0, none⟩)) :: L) (cel b t vs :: M)) :
    RL P w0 n ops Q (⟨some d, .alloc t, T, p, af, none⟩ :: l) L M :=
  RL.s (OpS.alloc hz) hd (by rintro _ _ ⟨b, rfl, rfl⟩; exact k b) (fun _ _ h => h.elim)
theorem RL.store {t : TypeId} {x y : Operand} {b o : Nat} {E : TypeId} {cs : List Value} {v : Value} {M' : List HProp} [q : Sca P t] (hx : Ev L x (.pointer (some ⟨b, o, none⟩))) (hy : Ev L y v) (hm : Takes M [cel b E cs] M') (hv : v.cells = #[v]) (h1 : v.oneCell' = true) (ho : Nat.blt o cs.length = true)
    (k : RL P w0 n ops Q l L (cel b E (setSeg cs [v] o) :: M')) : RL P w0 n ops Q (⟨none, .store t x y, T, p, af, none⟩ :: l) L M :=
  RL.s0 (OpS.store hx hy hv h1 hm (by simpa [Nat.blt_eq] using ho)) (by rintro _ _ rfl; exact k) (fun _ _ h => h.elim)
theorem RL.storeA {t : TypeId} {x y : Operand} {b o z : Nat} {E : TypeId} {cs vs : List Value} {M' : List HProp} [q : AggT P t z] (hx : Ev L x (.pointer (some ⟨b, o, none⟩))) (hy : Ev L y (.agg vs.toArray)) (hm : Takes M [cel b E cs] M') (hn : vs.length = z) (h1 : vs.all (·.oneCell') = true) (ho : Nat.ble (o + z) cs.length = true)
    (k : RL P w0 n ops Q l L (cel b E (setSeg cs vs o) :: M')) : RL P w0 n ops Q (⟨none, .store t x y, T, p, af, none⟩ :: l) L M :=
  RL.s0 (OpS.storeA hx hy hn (by simpa using h1) hm (by simpa [Nat.ble_eq] using ho)) (by rintro _ _ rfl; exact k) (fun _ _ h => h.elim)
theorem RL.buildSlice {d : Nat} {t E sz : TypeId} {len : Nat} [q : SliceT P t E sz] {ps : List (Nat × Operand)} {xs : List Operand} {vs vs' : List Value} (hp : ps.map (·.2) = xs) (hx : EvL L xs vs) (hv : vs = vs')
    (hr : ∀ w : World, (Instr.buildSlice t len ((ps.map (·.1)).zip vs).toArray).run P w = .ok (.slice (some ⟨w.heap.size, 0, none⟩) len len) { w with heap := w.heap.push (.cells vs'.toArray E (0, 0)) }) (hd : Nat.blt d n = true)
    (k : ∀ b, RL P w0 n ops Q l ((d, .slice (some ⟨b, 0, none⟩) len len) :: L) (cel b E vs' :: M)) : RL P w0 n ops Q (⟨some d, .buildSlice t len ps.toArray, T, p, af, none⟩ :: l) L M :=
  RL.s (OpS.buildSlice vs' hp hx hr) hd (by rintro _ _ ⟨b, rfl, rfl⟩; exact k b) (fun _ _ h => h.elim)
/-- A whole block is stored. -/
theorem RL.storeW {t : TypeId} {x y : Operand} {b z : Nat} {E : TypeId} {cs vs : List Value} {M' : List HProp} [q : AggT P t z] (hx : Ev L x (.pointer (some ⟨b, 0, none⟩))) (hy : Ev L y (.agg vs.toArray)) (hm : Takes M [cel b E cs] M') (hn : vs.length = z) (hc : cs.length = z) (h1 : vs.all (·.oneCell') = true)
    (k : RL P w0 n ops Q l L (cel b E vs :: M')) : RL P w0 n ops Q (⟨none, .store t x y, T, p, af, none⟩ :: l) L M :=
  RL.s0 (OpS.storeA hx hy hn (by simpa using h1) hm (by omega)) (by
    rintro _ _ rfl
    have : setSeg cs vs 0 = vs := by simp [setSeg, List.drop_of_length_le (show cs.length ≤ vs.length by omega)]
    rw [this]
    exact k) (fun _ _ h => h.elim)
end
attribute [irreducible] OpP OpS HasAt Base
end Go.Proofs.YtgmapenlgammfaaGreatDoor
