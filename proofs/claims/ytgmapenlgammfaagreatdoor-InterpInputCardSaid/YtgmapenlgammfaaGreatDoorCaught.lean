/- The deferred closures of Job and Expr: recover, caught. -/
import Derived.Test.YtgmapenlgammfaaGreatDoorMemO
set_option linter.all false
namespace Go.Proofs.YtgmapenlgammfaaGreatDoor
open Go Go.RowKit
section
attribute [local semireducible] Takes Gives Ev XJ CJ RL Spec pt ro OpP OpS HasAt
variable {P : Program} {w0 : World} {L : Env} {M : List HProp} {d : Option Tmp} {T : TypeId} {p : String} {af : Array Edge} {g : Option (Nat × Bool)}
theorem OpP.assertSome {t t' : TypeId} {x : Operand} {v : Value} (hc : concB P t = true) (hx : Ev L x (.iface t v)) : OpP P w0 L M ⟨d, .typeAssert x t' t true, T, p, af, g⟩ (.tuple #[v, .bool true]) := fun n a w h s _ _ => by
  unfold concB at hc
  cases hu : P.underlying t with
  | none => rw [hu] at hc; cases hc
  | some dd =>
    rw [hu] at hc
    simp only [Go.execOp, hx n a s, Instr.typeAssert, Sem.run_bind, run_und hu, Result.andThen_ok]
    cases dd <;> first | (cases hc; done) | simp
theorem OpP.assertNone {t t' : TypeId} {x : Operand} {z : Value} [k : ZeroT P t z] (hc : concB P t = true) (hx : Ev L x .nilIface) : OpP P w0 L M ⟨d, .typeAssert x t' t true, T, p, af, g⟩ (.tuple #[z, .bool false]) := fun n a w h s _ _ => by
  unfold concB at hc
  cases hu : P.underlying t with
  | none => rw [hu] at hc; cases hc
  | some dd =>
    rw [hu] at hc
    simp only [Go.execOp, hx n a s, Instr.typeAssert, Sem.run_bind, run_und hu, Result.andThen_ok]
    cases dd <;> first | (cases hc; done) | simp [k.run]
variable {ops : Array Oper} {Q : Exit → Act → List Frame → World → Prop} {i : Nat} {rest : List Nat} {a : Act} {cs : List Frame} {w : World} {o : Oper}
theorem wpS_pure {v : Value} (ho : ops[i]? = some o) (hg : o.guard = none) (hr : (execOp a.eval o).run P w = .ok (.value v) w) (k : wpOpsS P ops Q rest (a.put o.dst v) cs w) : wpOpsS P ops Q (i :: rest) a cs w := by
  simp only [wpOpsS, ho]
  rw [if_pos (by simp [Region.wanted, hg]), hr]
  exact k
theorem wpS_recoverSome {v : Value} {cs' : List Frame} (ho : ops[i]? = some o) (hg : o.guard = none) (hr : (execOp a.eval o).run P w = .ok .recover w) (hc : recoverD cs = some (v, cs')) (k : wpOpsS P ops Q rest (a.put o.dst v) cs' w) : wpOpsS P ops Q (i :: rest) a cs w := by
  simp only [wpOpsS, ho]
  rw [if_pos (by simp [Region.wanted, hg]), hr]
  simp only [hc]
  exact k
theorem wpS_recoverNone (ho : ops[i]? = some o) (hg : o.guard = none) (hr : (execOp a.eval o).run P w = .ok .recover w) (hc : recoverD cs = none) (k : wpOpsS P ops Q rest (a.put o.dst .nilIface) cs w) : wpOpsS P ops Q (i :: rest) a cs w := by
  simp only [wpOpsS, ho]
  rw [if_pos (by simp [Region.wanted, hg]), hr]
  simp only [hc]
  exact k
theorem wpS_calls {f : FuncId} {args : Array Value} (ho : ops[i]? = some o) (hg : o.guard = none) (hr : (execOp a.eval o).run P w = .ok (.enter f args) w) (k : Calls P f args w fun e w' => ∃ v, e = .returned v ∧ wpOpsS P ops Q rest (a.put o.dst v) cs w') : wpOpsS P ops Q (i :: rest) a cs w := by
  simp only [wpOpsS, ho]
  rw [if_pos (by simp [Region.wanted, hg]), hr]
  simp only [Oper.upon]
  refine k.mono ?_
  rintro e w' ⟨v, rfl, h⟩
  exact h
end
theorem caught_none (w0 : World) (x : Value) : Spec Tryz.prog w0 49 #[x, .nilIface] [] (Is (.tuple #[])) := by
  refine Spec.enter (args := [_, _]) Tryz.func49 rfl rfl rfl (fun F => ?_)
  refine kAutoB ?_
  apply RL.pur; (apply OpP.assertNone; kernel_rfl; exact kEv); exact rfl
  refine kAutoB ?_
  (apply RL.alloc; exact rfl; exact rfl; intro b4)
  (apply RL.storeA; exact kEv; exact kEv; exact kTake; exact rfl; exact rfl; exact rfl)
  refine kAutoB ?_
  exact XJ.end0 rfl [] (by exact kGives) ⟨rfl, rfl⟩
theorem caught_some (w0 : World) (b o T : Nat) (cs : List Value) (e : Int) (ho : Nat.blt o cs.length = true) : Spec Tryz.prog w0 49 #[.pointer (some ⟨b, o, none⟩), .iface 158 (.agg #[.int .i64 e])] [cel b T cs] (Ret (fun v N => v = .tuple #[] ∧ N = [cel b T (setSeg cs [.int .i64 e] o)]) noP) := by
  refine Spec.enter (args := [_, _]) Tryz.func49 rfl rfl rfl (fun F => ?_)
  refine kAutoB ?_
  apply RL.pur; (apply OpP.assertSome; kernel_rfl; exact kEv); exact rfl
  refine kAutoB ?_
  (apply RL.alloc; exact rfl; exact rfl; intro b4)
  (apply RL.storeA; exact kEv; exact kEv; exact kTake; exact rfl; exact rfl; exact rfl)
  refine kAutoB ?_
  (apply RL.store; exact kEv; exact kEv; exact Takes.there (Takes.here _ _); exact rfl; exact rfl; exact ho)
  refine kAutoB ?_
  exact XJ.end0 rfl [_] (by exact kGives) ⟨rfl, rfl⟩
section
attribute [local semireducible] Takes Gives Ev XJ CJ RL Spec pt ro OpP OpS HasAt
variable {P : Program} {w0 : World} {n : Nat} {ops : Array Oper} {Q : Exit → Act → List Frame → World → Prop} {L : Env} {M : List HProp} {i : Nat} {rest : List Nat} {op : Op} {T : TypeId} {p : String} {af : Array Edge} {d : Nat} {cs : List Frame} {w : World} {h : Frag} {a : Act}
theorem CallsD.enter {f : FuncId} {fn : Func} {id : Nat} {args : List Value} {u : FrameMode} {R : Ending → FrameMode → World → Prop} (hf : P.funcs[f]? = some fn) (hb : fn.body = some (.region id ops false)) (hn : fn.ntmps = n) (hle : Nat.ble args.length n = true) (l : List Nat) (hl : List.range ops.size = l)
    (k : ∀ c₀ cs a Q, Q = bodyPostS P fn c₀ cs R → St n (argsEnv 0 args) a → c₀.mode = u → wpOpsS P ops Q l a (c₀ :: cs) w) : CallsD P f args.toArray u w R := by
  refine callsD_of_wpS hf hb ?_
  intro c₀ cs hu
  refine wpS_region ?_
  have hle' : args.length ≤ n := by simpa [Nat.ble_eq] using hle
  have hst := St.enter args (n - args.length) (argsEnv 0 args) (fun t v e => by have := argsEnv_get args 0 t v e; simpa using this.2)
  rw [show args.length + (n - args.length) = n by omega] at hst
  have : args.toArray.size = args.length := by simp
  rw [hn, this, hl]
  exact k c₀ cs _ _ rfl hst hu
theorem wpS_pureL {v : Value} (ho : ops[i]? = some ⟨some d, op, T, p, af, none⟩) (hp : OpP P w0 L M ⟨some d, op, T, p, af, none⟩ v) (hd : Nat.blt d n = true) (hs : St n L a) (m : star M h) (sa : Go.Proofs.YtgmapenlgammfaaGreatDoor.Sat w0 w h) (k : ∀ a, St n ((d, v) :: L) a → wpOpsS P ops Q rest a cs w) : wpOpsS P ops Q (i :: rest) a cs w :=
  wpS_pure ho rfl (hp n a w h hs m sa) (k _ (hs.put v hd))
theorem wpS_recN {ts : Array TypeId} {xs : Array Operand} (ho : ops[i]? = some ⟨some d, .call { callee := .builtin .recover, args := xs, argTypes := ts }, T, p, af, none⟩) (hd : Nat.blt d n = true) (hs : St n L a) (hc : recoverD cs = none) (k : ∀ a, St n ((d, .nilIface) :: L) a → wpOpsS P ops Q rest a cs w) : wpOpsS P ops Q (i :: rest) a cs w :=
  wpS_recoverNone ho rfl (by simp [Go.execOp, resolve, invoke, builtin]) hc (k _ (hs.put .nilIface hd))
theorem wpS_recS {ts : Array TypeId} {xs : Array Operand} {v : Value} {cs' : List Frame} (ho : ops[i]? = some ⟨some d, .call { callee := .builtin .recover, args := xs, argTypes := ts }, T, p, af, none⟩) (hd : Nat.blt d n = true) (hs : St n L a) (hc : recoverD cs = some (v, cs')) (k : ∀ a, St n ((d, v) :: L) a → wpOpsS P ops Q rest a cs' w) : wpOpsS P ops Q (i :: rest) a cs w :=
  wpS_recoverSome ho rfl (by simp [Go.execOp, resolve, invoke, builtin]) hc (k _ (hs.put v hd))
theorem wpS_callL {f : Operand} {k' : FuncId} {first cap : List Value} {xs : List Operand} {vs : List Value} {ts : Array TypeId} {K : Value → List HProp → Prop} {pre M' : List HProp}
    (ho : ops[i]? = some ⟨some d, .call { callee := .value f, args := xs.toArray, argTypes := ts }, T, p, af, none⟩) (hf : Ev L f (.func (.func k') first.toArray cap.toArray)) (c : CallT P k') (hx : EvL L xs vs) (hm : Takes M pre M') (hsp : Spec P w0 k' (first ++ vs ++ cap).toArray pre (Ret K noP))
    (hd : Nat.blt d n = true) (hs : St n L a) (m : star M h) (sa : Go.Proofs.YtgmapenlgammfaaGreatDoor.Sat w0 w h) (k : ∀ v N a w' h', K v N → St n ((d, v) :: L) a → star (N ++ M') h' → Go.Proofs.YtgmapenlgammfaaGreatDoor.Sat w0 w' h' → wpOpsS P ops Q rest a cs w') : wpOpsS P ops Q (i :: rest) a cs w := by
  refine wpS_calls ho rfl (f := k') (args := (first ++ vs ++ cap).toArray) (w := w) (by simp [Go.execOp, resolve, Deferred.ofValue, hf n a hs, invoke, c.run, hx.map hs]) ?_
  refine (hsp M' w h (hm h m) sa).mono ?_
  rintro e w' ⟨N, h', r, m', s'⟩
  cases e with
  | returned v => exact ⟨v, rfl, k v N _ w' h' r (hs.put v hd) m' s'⟩
  | panicked c => exact r.elim
  | outgrown => exact r.elim
theorem defS_end {fn : Func} {c₀ c₁ : Frame} {cs : List Frame} {u' : FrameMode} {M1 : List HProp} (hr : fn.results = #[]) (hs : St n L a) (m : star M1 h) (sa : Go.Proofs.YtgmapenlgammfaaGreatDoor.Sat w0 w h) (hu : settle u' = .returning) (hc : c₁ = { c₀ with mode := u' }) :
    wpOpsS P ops (bodyPostS P fn c₀ cs fun e u' w' => (∃ v, e = .returned v) ∧ settle u' = .returning ∧ ∃ h', star M1 h' ∧ Go.Proofs.YtgmapenlgammfaaGreatDoor.Sat w0 w' h') [] a (c₁ :: cs) w := by
  subst hc
  exact ⟨hs.df, u', rfl, .tuple #[], results_none hr _ _ _, ⟨_, rfl⟩, hu, h, m, sa⟩
theorem rec_none {c₀ : Frame} {cs : List Frame} (hu : c₀.mode = .returning) : recoverD (c₀ :: cs) = none := by simp [recoverD, hu]
theorem rec_some {c₀ : Frame} {cs : List Frame} {v : Value} (hu : c₀.mode = .panicking [{ v := v, recovered := false }]) : recoverD (c₀ :: cs) = some (v, { c₀ with mode := .panicking [{ v := v, recovered := true }] } :: cs) := by simp [recoverD, hu]
theorem settle_rec {v : Value} : settle (.panicking [{ v := v, recovered := true }]) = .returning := by simp [settle]
theorem mode_same {c₀ : Frame} (hu : c₀.mode = .returning) : c₀ = { c₀ with mode := .returning } := by cases c₀; simp at hu; simp [hu]
/-- A closure that hands what it recovered to a function. -/
theorem DefS.two {f k' : FuncId} {fn : Func} {id : Nat} {x v : Value} {u u' : FrameMode} {T1 T2 : TypeId} {p1 p2 : String} {a1 a2 : Array Edge} {ts1 ts2 : Array TypeId} {pre M1 M' : List HProp} {K : Value → List HProp → Prop}
    (hf : P.funcs[f]? = some fn) (hb : fn.body = some (.region id #[⟨some 1, .call { callee := .builtin .recover, args := #[], argTypes := ts1 }, T1, p1, a1, none⟩, ⟨some 2, .call { callee := .value (.func k'), args := #[.tmp 0, .tmp 1], argTypes := ts2 }, T2, p2, a2, none⟩] false)) (hn : fn.ntmps = 3) (hr : fn.results = #[]) (c : CallT P k')
    (hu : (u = .returning ∧ v = .nilIface ∧ u' = .returning) ∨ (u = .panicking [{ v := v, recovered := false }] ∧ u' = .panicking [{ v := v, recovered := true }])) (hm : Takes M pre M') (hs : Spec P w0 k' [x, v].toArray pre (Ret K noP)) (hk : ∀ y N, K y N → N ++ M' = M1) : DefS P w0 f [x].toArray u M M1 := by
  intro w h m sa
  refine CallsD.enter hf hb hn rfl [0, 1] rfl ?_
  intro c₀ cs a Q hQ hst hmode
  have key : ∀ cs1 a, St 3 [(1, v), (0, x)] a → cs1 = { c₀ with mode := u' } :: cs → settle u' = .returning → wpOpsS P #[⟨some 1, .call { callee := .builtin .recover, args := #[], argTypes := ts1 }, T1, p1, a1, none⟩, ⟨some 2, .call { callee := .value (.func k'), args := #[.tmp 0, .tmp 1], argTypes := ts2 }, T2, p2, a2, none⟩] Q [1] a cs1 w := by
    intro cs1 a hst e1 e2
    refine wpS_callL (i := 1) (rest := []) (M := M) (L := [(1, v), (0, x)]) (xs := [.tmp 0, .tmp 1]) (vs := [x, v]) (first := []) (cap := []) rfl Ev.func c (.cons (Ev.tmp rfl) (.cons (Ev.tmp rfl) .nil)) hm hs rfl hst m sa ?_
    intro y N a w' h' hK hst m sa
    subst hQ e1
    exact defS_end hr hst (by rw [← hk y N hK]; exact m) sa e2 rfl
  rcases hu with ⟨rfl, rfl, rfl⟩ | ⟨rfl, rfl⟩
  · exact wpS_recN (i := 0) (rest := [1]) (L := [(0, x)]) rfl rfl hst (rec_none hmode) (fun a hst => key _ a hst (by rw [← mode_same hmode]) rfl)
  · exact wpS_recS (i := 0) (rest := [1]) (L := [(0, x)]) rfl rfl hst (rec_some hmode) (fun a hst => key _ a hst rfl settle_rec)
theorem DefS.three {f k' : FuncId} {fn : Func} {id : Nat} {S fl off FT b : Nat} [kf : FldT P S fl off FT] {v : Value} {u u' : FrameMode} {T0 T1 T2 : TypeId} {p0 p1 p2 : String} {a0 a1 a2 : Array Edge} {ts1 ts2 : Array TypeId} {pre M1 M' : List HProp} {K : Value → List HProp → Prop}
    (hf : P.funcs[f]? = some fn) (hb : fn.body = some (.region id #[⟨some 1, .fieldAddr S (.tmp 0) fl, T0, p0, a0, none⟩, ⟨some 2, .call { callee := .builtin .recover, args := #[], argTypes := ts1 }, T1, p1, a1, none⟩, ⟨some 3, .call { callee := .value (.func k'), args := #[.tmp 1, .tmp 2], argTypes := ts2 }, T2, p2, a2, none⟩] false)) (hn : fn.ntmps = 4) (hr : fn.results = #[]) (c : CallT P k')
    (hu : (u = .returning ∧ v = .nilIface ∧ u' = .returning) ∨ (u = .panicking [{ v := v, recovered := false }] ∧ u' = .panicking [{ v := v, recovered := true }])) (hm : Takes M pre M') (hs : Spec P w0 k' [.pointer (some ⟨b, 0 + off, none⟩), v].toArray pre (Ret K noP)) (hk : ∀ y N, K y N → N ++ M' = M1) : DefS P w0 f [Value.pointer (some ⟨b, 0, none⟩)].toArray u M M1 := by
  intro w h m sa
  refine CallsD.enter hf hb hn rfl [0, 1, 2] rfl ?_
  intro c₀ cs a Q hQ hst hmode
  refine wpS_pureL (i := 0) (rest := [1, 2]) (L := [(0, .pointer (some ⟨b, 0, none⟩))]) (M := M) rfl (OpP.fieldAddr (Ev.tmp rfl)) rfl hst m sa (fun a hst => ?_)
  have key : ∀ cs1 a, St 4 [(2, v), (1, .pointer (some ⟨b, 0 + off, none⟩)), (0, .pointer (some ⟨b, 0, none⟩))] a → cs1 = { c₀ with mode := u' } :: cs → settle u' = .returning → wpOpsS P #[⟨some 1, .fieldAddr S (.tmp 0) fl, T0, p0, a0, none⟩, ⟨some 2, .call { callee := .builtin .recover, args := #[], argTypes := ts1 }, T1, p1, a1, none⟩, ⟨some 3, .call { callee := .value (.func k'), args := #[.tmp 1, .tmp 2], argTypes := ts2 }, T2, p2, a2, none⟩] Q [2] a cs1 w := by
    intro cs1 a hst e1 e2
    refine wpS_callL (i := 2) (rest := []) (M := M) (L := [(2, v), (1, .pointer (some ⟨b, 0 + off, none⟩)), (0, .pointer (some ⟨b, 0, none⟩))]) (xs := [.tmp 1, .tmp 2]) (vs := [.pointer (some ⟨b, 0 + off, none⟩), v]) (first := []) (cap := []) rfl Ev.func c (.cons (Ev.tmp rfl) (.cons (Ev.tmp rfl) .nil)) hm hs rfl hst m sa ?_
    intro y N a w' h' hK hst m sa
    subst hQ e1
    exact defS_end hr hst (by rw [← hk y N hK]; exact m) sa e2 rfl
  rcases hu with ⟨rfl, rfl, rfl⟩ | ⟨rfl, rfl⟩
  · exact wpS_recN (i := 1) (rest := [2]) rfl rfl hst (rec_none hmode) (fun a hst => key _ a hst (by rw [← mode_same hmode]) rfl)
  · exact wpS_recS (i := 1) (rest := [2]) rfl rfl hst (rec_some hmode) (fun a hst => key _ a hst rfl settle_rec)
end
theorem job1_none (w0 : World) (b : Nat) (M : List HProp) : DefS Tryz.prog w0 48 [Value.pointer (some ⟨b, 0, none⟩)].toArray .returning M M :=
  DefS.three Tryz.func48 rfl rfl rfl inferInstance (.inl ⟨rfl, rfl, rfl⟩) (Takes.nil _) (caught_none w0 _) (fun _ _ h => by obtain ⟨_, rfl⟩ := h; rfl)
theorem job1_some (w0 : World) (b T : Nat) (e : Int) (x0 x1 x2 x3 x4 x5 : Value) (Z : List HProp) : DefS Tryz.prog w0 48 [Value.pointer (some ⟨b, 0, none⟩)].toArray (.panicking (stopV e)) (cel b T [x0, x1, x2, x3, x4, x5] :: Z) (cel b T [x0, x1, x2, x3, x4, .int .i64 e] :: Z) :=
  DefS.three Tryz.func48 rfl rfl rfl inferInstance (.inr ⟨rfl, rfl⟩) (Takes.here _ _) (caught_some w0 b 5 T [x0, x1, x2, x3, x4, x5] e rfl) (fun _ _ h => by obtain ⟨_, rfl⟩ := h; rfl)
theorem expr1_none (w0 : World) (b : Nat) (M : List HProp) : DefS Tryz.prog w0 69 [Value.pointer (some ⟨b, 0, none⟩)].toArray .returning M M :=
  DefS.two Tryz.func69 rfl rfl rfl inferInstance (.inl ⟨rfl, rfl, rfl⟩) (Takes.nil _) (caught_none w0 _) (fun _ _ h => by obtain ⟨_, rfl⟩ := h; rfl)
theorem expr1_some (w0 : World) (b T : Nat) (e : Int) (x : Value) (Z : List HProp) : DefS Tryz.prog w0 69 [Value.pointer (some ⟨b, 0, none⟩)].toArray (.panicking (stopV e)) (cel b T [x] :: Z) (cel b T [.int .i64 e] :: Z) :=
  DefS.two Tryz.func69 rfl rfl rfl inferInstance (.inr ⟨rfl, rfl⟩) (Takes.here _ _) (caught_some w0 b 0 T [x] e rfl) (fun _ _ h => by obtain ⟨_, rfl⟩ := h; rfl)
end Go.Proofs.YtgmapenlgammfaaGreatDoor
