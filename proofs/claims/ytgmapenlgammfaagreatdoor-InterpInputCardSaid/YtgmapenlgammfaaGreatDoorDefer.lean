/- Functions with a deferred call; results that stand in cells. Plain lemmas, no statement of the program. -/
import Derived.Test.YtgmapenlgammfaaGreatDoorOwn
import Derived.Recover
set_option linter.all false
namespace Go.Proofs.YtgmapenlgammfaaGreatDoor
open Go Go.RowKit
attribute [local semireducible] Takes Gives Ev XJ CJ RL Spec pt ro OpP OpS HasAt
section
variable {P : Program} {w0 : World} {n : Nat} {L : Env} {M : List HProp} {fn : Func} {R : Ending → List HProp → Prop} {F : List HProp}
theorem results_cell {fn : Func} {t : Tmp} {T : TypeId} (h : fn.results = #[.cell t T]) (tmps : Array Value) {b o : Nat} {v : Value} {w : World} (ht : tmps.getD t undef = .pointer (some ⟨b, o, none⟩)) (hv : (loadVar T ⟨b, o, none⟩).run P w = .ok v w) :
    (results fn tmps).run P w = .ok v w := by
  simp only [results, h, List.mapM_toArray, List.mapM_cons, List.mapM_nil, ht, asAddr, Sem.run_bind, Sem.run_pure, Result.andThen_ok, hv]
  simp [hv]
theorem results_cell_tmp {fn : Func} {t u : Tmp} {T : TypeId} (h : fn.results = #[.cell t T, .tmp u]) (tmps : Array Value) {b o : Nat} {v : Value} {w : World} (ht : tmps.getD t undef = .pointer (some ⟨b, o, none⟩)) (hv : (loadVar T ⟨b, o, none⟩).run P w = .ok v w) :
    (results fn tmps).run P w = .ok (.tuple #[v, tmps.getD u undef]) w := by
  simp only [results, h, List.mapM_toArray, List.mapM_cons, List.mapM_nil, ht, asAddr, Sem.run_bind, Sem.run_pure, Result.andThen_ok, hv]
  simp [hv]
theorem results_tmp_cell {fn : Func} {t u : Tmp} {T : TypeId} (h : fn.results = #[.tmp u, .cell t T]) (tmps : Array Value) {b o : Nat} {v : Value} {w : World} (ht : tmps.getD t undef = .pointer (some ⟨b, o, none⟩)) (hv : (loadVar T ⟨b, o, none⟩).run P w = .ok v w) :
    (results fn tmps).run P w = .ok (.tuple #[tmps.getD u undef, v]) w := by
  simp only [results, h, List.mapM_toArray, List.mapM_cons, List.mapM_nil, ht, asAddr, Sem.run_bind, Sem.run_pure, Result.andThen_ok, hv]
  simp [hv]
/-- The result is an aggregate in cells. -/
theorem XJ.retC {t T q b : Nat} {vs : List Value} [k : AggT P T q] (hr : fn.results = #[.cell t T]) (ht : L.get t = some (.pointer (some ⟨b, 0, none⟩))) (hm : HasAt w0 M b 0 vs) (hn : vs.length = q) (M' : List HProp) (hM : Gives M (M' ++ F)) (hR : R (.returned (.agg vs.toArray)) M') : XJ w0 n .ret (endOf P w0 fn R F) L M :=
  fun a w h s m sa => ⟨s.df, .agg vs.toArray, results_cell hr _ (by rw [Act.getD_eval, Ev.tmp ht n a s]) (run_loadVar_agg hn (hm w h m sa)), M', h, hR, hM h m, sa⟩
theorem XJ.retCT {t u T q b : Nat} {v : Value} {vs : List Value} [k : AggT P T q] (hr : fn.results = #[.cell t T, .tmp u]) (ht : L.get t = some (.pointer (some ⟨b, 0, none⟩))) (hu : L.get u = some v) (hm : HasAt w0 M b 0 vs) (hn : vs.length = q) (M' : List HProp) (hM : Gives M (M' ++ F)) (hR : R (.returned (.tuple #[.agg vs.toArray, v])) M') : XJ w0 n .ret (endOf P w0 fn R F) L M :=
  fun a w h s m sa => ⟨s.df, .tuple #[.agg vs.toArray, v], by rw [results_cell_tmp hr _ (by rw [Act.getD_eval, Ev.tmp ht n a s]) (run_loadVar_agg hn (hm w h m sa)), Act.getD_eval, Ev.tmp hu n a s], M', h, hR, hM h m, sa⟩
theorem XJ.retTC {t u T b : Nat} {v x : Value} [k : Sca P T] (hr : fn.results = #[.tmp u, .cell t T]) (ht : L.get t = some (.pointer (some ⟨b, 0, none⟩))) (hu : L.get u = some v) (hm : HasAt w0 M b 0 [x]) (M' : List HProp) (hM : Gives M (M' ++ F)) (hR : R (.returned (.tuple #[v, x])) M') : XJ w0 n .ret (endOf P w0 fn R F) L M :=
  fun a w h s m sa => ⟨s.df, .tuple #[v, x], by rw [results_tmp_cell hr _ (by rw [Act.getD_eval, Ev.tmp ht n a s]) (run_loadVar_sca (by simpa using hm w h m sa 0 x rfl)), Act.getD_eval, Ev.tmp hu n a s], M', h, hR, hM h m, sa⟩

/-! ### deferred calls -/
def withD (D : List Deferred) (a : Act) : Act := { a with defers := D }
abbrev endD (P : Program) (w0 : World) (fn : Func) (R : Ending → List HProp → Prop) (F : List HProp) : Exit → Act → World → Prop :=
  bodyPostD P fn fun e w' => ∃ M' h', R e M' ∧ star (M' ++ F) h' ∧ Sat w0 w' h'
theorem Spec.enterD {f : FuncId} {fn : Func} {c : Code} {args : List Value} {pre : List HProp} {R : Ending → List HProp → Prop} {n : Nat}
    (hf : P.funcs[f]? = some fn) (hb : fn.body = some c) (hn : fn.ntmps = n) (hle : Nat.ble args.length n = true)
    (k : ∀ F, CJ P w0 n c (endD P w0 fn R F) (argsEnv 0 args) (pre ++ F)) : Spec P w0 f args.toArray pre R := by
  intro F w h m t
  refine calls_of_wp_defers hf hb ?_
  have hle' : args.length ≤ n := by simpa [Nat.ble_eq] using hle
  have hst := St.enter args (n - args.length) (argsEnv 0 args) (fun t v e => by have := argsEnv_get args 0 t v e; simpa using this.2)
  rw [show args.length + (n - args.length) = n by omega] at hst
  have : args.toArray.size = args.length := by simp
  rw [hn, this]
  exact k F _ w h hst m t
theorem XJ.early (k : XJ w0 n .ret (endOf P w0 fn R F) L M) : XJ w0 n .ret (endD P w0 fn R F) L M := fun a w h s m t => by
  obtain ⟨hd, v, h1, h2⟩ := k a w h s m t
  show Leaves P fn a.tmps _ a.defers .returning w
  rw [hd]
  exact ⟨v, h1, h2⟩
def XJD (w0 : World) (n : Nat) (D : List Deferred) (e : Exit) (Q : Exit → Act → World → Prop) (L : Env) (M : List HProp) : Prop :=
  ∀ a w h, St n L a → star M h → Sat w0 w h → Q e (withD D a) w
def CJD (P : Program) (w0 : World) (n : Nat) (D : List Deferred) (c : Code) (Q : Exit → Act → World → Prop) (L : Env) (M : List HProp) : Prop :=
  ∀ a w h, St n L a → star M h → Sat w0 w h → c.wp P Q (withD D a) w
def RLD (P : Program) (w0 : World) (n : Nat) (D : List Deferred) (ops : Array Oper) (Q : Exit → Act → World → Prop) (l : List Oper) (L : Env) (M : List HProp) : Prop :=
  ∀ a w h, St n L a → star M h → Sat w0 w h → wpList P ops Q l (withD D a) w
variable {ops : Array Oper} {Q : Exit → Act → World → Prop} {l : List Oper} {op : Op} {T : TypeId} {p : String} {af : Array Edge} {D : List Deferred}
theorem XJD.gives {e : Exit} {M' : List HProp} (g : Gives M M') (k : XJD w0 n D e Q L M') : XJD w0 n D e Q L M := fun a w h s m t => k a w h s (g h m) t
theorem RLD.gives {M' : List HProp} (g : Gives M M') (k : RLD P w0 n D ops Q l L M') : RLD P w0 n D ops Q l L M := fun a w h s m t => k a w h s (g h m) t
theorem CJD.gives {c : Code} {M' : List HProp} (g : Gives M M') (k : CJD P w0 n D c Q L M') : CJD P w0 n D c Q L M := fun a w h s m t => k a w h s (g h m) t
theorem CJD.seq {x y : Code} (k : CJD P w0 n D x (Exit.then (fun a w => y.wp P Q a w) Q) L M) : CJD P w0 n D (.seq x y) Q L M := fun a w h s m t => wp_seq (k a w h s m t)
theorem CJD.ret (k : XJD w0 n D .ret Q L M) : CJD P w0 n D .ret Q L M := fun a w h s m t => wp_ret (k a w h s m t)
theorem CJD.region {i : Nat} {l : List Oper} (k : RLD P w0 n D l.toArray Q l L M) : CJD P w0 n D (.region i l.toArray false) Q L M := fun a w h s m t => wp_region_lit (k a w h s m t)
theorem RLD.nil (k : XJD w0 n D .normal Q L M) : RLD P w0 n D ops Q [] L M := k
theorem XJD.next {y : Code} {Q' : Exit → Act → World → Prop} (k : CJD P w0 n D y Q L M) : XJD w0 n D .normal (Exit.then (fun a w => y.wp P Q a w) Q') L M := k
theorem XJD.then_ret {K : Act → World → Prop} (k : XJD w0 n D .ret Q L M) : XJD w0 n D .ret (Exit.then K Q) L M := k
theorem XJD.then_panic {K : Act → World → Prop} {c : List PanicEntry} (k : XJD w0 n D (.panic c) Q L M) : XJD w0 n D (.panic c) (Exit.then K Q) L M := k
theorem RLD.pur {d : Nat} {v : Value} (hp : OpP P w0 L M ⟨some d, op, T, p, af, none⟩ v) (hd : Nat.blt d n = true) (k : RLD P w0 n D ops Q l ((d, v) :: L) M) : RLD P w0 n D ops Q (⟨some d, op, T, p, af, none⟩ :: l) L M :=
  fun a w h s m sa => wpList_plain rfl fun K hK => by
    have hr : (execOp (withD D a).eval ⟨some d, op, T, p, af, none⟩).run P w = _ := hp n a w h s m sa
    simp only [Oper.wp, hr, Oper.upon]
    exact hK _ _ (k _ w h (s.put v hd) m sa)
theorem RLD.s {d : Nat} {K : Value → List HProp → Prop} {KP : List PanicEntry → List HProp → Prop} (hp : OpS P w0 L M ⟨some d, op, T, p, af, none⟩ K KP) (hd : Nat.blt d n = true)
    (k : ∀ v M', K v M' → RLD P w0 n D ops Q l ((d, v) :: L) M') (kp : ∀ c M', KP c M' → XJD w0 n D (.panic c) Q L M') : RLD P w0 n D ops Q (⟨some d, op, T, p, af, none⟩ :: l) L M :=
  fun a w h s m sa => wpList_plain rfl fun K hK => by
    unfold Oper.wp
    exact upon_of (a := withD D a) (hp n a w h s m sa) (fun v M' h' w' kk mm ss => hK _ _ (k v M' kk _ w' h' (s.put v hd) mm ss)) (fun c M' h' w' kk mm ss => kp c M' kk a w' h' s mm ss)
theorem RLD.s0 {K : Value → List HProp → Prop} {KP : List PanicEntry → List HProp → Prop} (hp : OpS P w0 L M ⟨none, op, T, p, af, none⟩ K KP)
    (k : ∀ v M', K v M' → RLD P w0 n D ops Q l L M') (kp : ∀ c M', KP c M' → XJD w0 n D (.panic c) Q L M') : RLD P w0 n D ops Q (⟨none, op, T, p, af, none⟩ :: l) L M :=
  fun a w h s m sa => wpList_plain rfl fun K hK => by
    unfold Oper.wp
    exact upon_of (a := withD D a) (hp n a w h s m sa) (fun v M' h' w' kk mm ss => hK _ _ (k v M' kk _ w' h' s mm ss)) (fun c M' h' w' kk mm ss => kp c M' kk a w' h' s mm ss)
theorem RLD.storeW {t : TypeId} {x y : Operand} {b z : Nat} {E : TypeId} {cs vs : List Value} {M' : List HProp} [q : AggT P t z] (hx : Ev L x (.pointer (some ⟨b, 0, none⟩))) (hy : Ev L y (.agg vs.toArray)) (hm : Takes M [cel b E cs] M') (hn : vs.length = z) (hc : cs.length = z) (h1 : vs.all (·.oneCell') = true)
    (k : RLD P w0 n D ops Q l L (cel b E vs :: M')) : RLD P w0 n D ops Q (⟨none, .store t x y, T, p, af, none⟩ :: l) L M :=
  RLD.s0 (OpS.storeA hx hy hn (by simpa using h1) hm (by omega)) (by
    rintro _ _ rfl
    have : setSeg cs vs 0 = vs := by simp [setSeg, List.drop_of_length_le (show cs.length ≤ vs.length by omega)]
    rw [this]
    exact k) (fun _ _ h => h.elim)
/-- The deferred call of a closure. -/
theorem RL.defer {f : Operand} {fv : Fn} {cap : List Value} {ts : Array TypeId} (hf : Ev L f (.func fv #[] cap.toArray))
    (k : RLD P w0 n [{ target := .fn fv cap.toArray, args := #[] }] ops Q l L M) : RL P w0 n ops Q (⟨none, .defer { callee := .value f, args := #[], argTypes := ts }, T, p, af, none⟩ :: l) L M :=
  fun a w h s m sa => wpList_plain rfl fun K hK => by
    have hr : (execOp a.eval ⟨none, .defer { callee := .value f, args := #[], argTypes := ts }, T, p, af, none⟩).run P w = .ok (.defer { target := .fn fv cap.toArray, args := #[] }) w := by
      simp [execOp, resolve, Deferred.ofValue, hf n a s]
    unfold Oper.wp
    rw [hr, Oper.upon_defer]
    refine hK _ _ ?_
    have := k a w h s m sa
    unfold withD at this
    rw [s.df]
    exact this
/-- What a deferred call of f comes to: it returns, the frame's mode is u' then. -/
def DefS (P : Program) (w0 : World) (f : FuncId) (args : Array Value) (u : FrameMode) (M M1 : List HProp) : Prop :=
  ∀ w h, star M h → Sat w0 w h → CallsD P f args u w fun e u' w' => (∃ v, e = .returned v) ∧ settle u' = .returning ∧ ∃ h', star M1 h' ∧ Sat w0 w' h'
theorem XJD.leave {f : FuncId} {cap : List Value} {M1 : List HProp} (c : CallT P f) (hd : DefS P w0 f cap.toArray .returning M M1) (k : XJ w0 n .ret (endOf P w0 fn R F) L M1) :
    XJD w0 n [{ target := .fn (.func f) cap.toArray, args := #[] }] .ret (endD P w0 fn R F) L M := fun a w h s m sa => by
  show Leaves P fn a.tmps _ [_] .returning w
  refine leaves_cons (by simp) (f := f) (args := cap.toArray) (by simp [invoke, c.run]) ?_
  refine (hd w h m sa).mono ?_
  rintro e u' w' ⟨⟨v, rfl⟩, hs, h', m', sa'⟩
  simp only [hs]
  obtain ⟨_, x, h1, h2⟩ := k a w' h' s m' sa'
  exact ⟨x, h1, h2⟩
theorem XJD.caught {f : FuncId} {cap : List Value} {M1 : List HProp} {ch : List PanicEntry} (c : CallT P f) (hd : DefS P w0 f cap.toArray (.panicking ch) M M1) (k : XJ w0 n .ret (endOf P w0 fn R F) L M1) :
    XJD w0 n [{ target := .fn (.func f) cap.toArray, args := #[] }] (.panic ch) (endD P w0 fn R F) L M := fun a w h s m sa => by
  show Leaves P fn a.tmps _ [_] (.panicking ch) w
  refine leaves_cons (by simp) (f := f) (args := cap.toArray) (by simp [invoke, c.run]) ?_
  refine (hd w h m sa).mono ?_
  rintro e u' w' ⟨⟨v, rfl⟩, hs, h', m', sa'⟩
  simp only [hs]
  obtain ⟨_, x, h1, h2⟩ := k a w' h' s m' sa'
  exact ⟨x, h1, h2⟩
end
attribute [irreducible] XJD CJD RLD
end Go.Proofs.YtgmapenlgammfaaGreatDoor
