/- The package check: copies of lists and maps; a fault is added. -/
import Derived.Test.YtgmapenlgammfaaGreatDoorScope
set_option linter.all false
namespace Go.Proofs.YtgmapenlgammfaaGreatDoor
open Go
section
variable {P : Program} {w0 : World} {n : Nat} {ops : Array Oper} {Q : Exit → Act → World → Prop} {L : Env} {M : List HProp} {l : List Oper} {T : TypeId} {p : String} {af : Array Edge}
theorem RL.append {d : Nat} {t : TypeId} {s x : Operand} {E sz bytes : Nat} {zc : List Value} [k : AppT P t E sz bytes zc] {v u : Value} {q m : Nat} {xs news : List Value} {M' : List HProp} (hs : Ev L s v) (hx : Ev L x u) (hm : Takes M [row E sz v q xs] M') (hn : ∀ h, star M h → Src w0 M sz u m news) (h63 : q + m ≤ maxLen) (hb : (q + m) * bytes ≤ 140737488355328) (hd : Nat.blt d n = true)
    (kk : ∀ A c, RL P w0 n ops Q l ((d, .slice A (q + m) c) :: L) (row E sz (.slice A (q + m) c) (q + m) (xs ++ news) :: M')) : RL P w0 n ops Q (⟨some d, .call { callee := .builtin .append, args := #[s, x], argTypes := #[t, t] }, T, p, af, none⟩ :: l) L M :=
  RL.s (OpS.append hs hx hm hn h63 hb) hd (by rintro _ _ ⟨⟨A, c, rfl⟩, rfl⟩; exact kk A c) (fun _ _ h => h.elim)
theorem RL.clone {d : Nat} {f x : Operand} {k : FuncId} {t : TypeId} {r : Nat} {ts : Array TypeId} {m : ByteArray → Option Value} [c : CloneT P k] (hf : Ev L f (.func (.func k) #[] #[])) (hx : Ev L x (.iface t (.map (some r)))) (hm : HasMap w0 M Value.string r m) (hd : Nat.blt d n = true)
    (kk : ∀ r', RL P w0 n ops Q l ((d, .iface t (.map (some r'))) :: L) (mp Value.string r' m :: M)) : RL P w0 n ops Q (⟨some d, .call { callee := .value f, args := #[x], argTypes := ts }, T, p, af, none⟩ :: l) L M :=
  RL.s (OpS.clone hf hx hm) hd (by rintro _ _ ⟨r', rfl, rfl⟩; exact kk r') (fun _ _ h => h.elim)
end
theorem iclone_spec (w0 : World) (A : Option Addr) (n c : Nat) (xs : List Value) (hb : n ≤ 1000000000000) :
    Spec Tryz.prog w0 130 #[.slice A n c] [rrow 3 1 (.slice A n c) n xs] (Ret (fun v N => (∃ A l c, v = .slice A l c) ∧ N = [rrow 3 1 (.slice A n c) n xs]) noP) := by
  refine Spec.enter (args := [_]) Tryz.func130 rfl rfl rfl (fun F => ?_)
  refine kAuto ?_
  apply RL.pur; (apply OpP.eqNilSlice; exact kEv; exact kEv); exact rfl
  refine kAuto ?_
  cases A with
  | none =>
    refine kAuto ?_
    exact XJ.ret1 rfl rfl [_] (by exact kGives) ⟨⟨_, _, _, rfl⟩, rfl⟩
  | some ad =>
    refine kAuto ?_
    (apply RL.buildSlice; exact rfl; exact kEvl; exact rfl; (intro w; kernel_rfl); exact rfl; intro b)
    refine RL.gives (row_of_cel (n := 0) (sz := 1) rfl (by simp) (by decide) _) ?_
    refine kAuto ?_
    refine RL.append (by exact kEv) (by exact kEv) (Takes.here _ _) (fun h m => rrow_src (by exact kTake) m) (by simp only [maxLen]; omega) (by omega) rfl (fun A' c' => ?_)
    refine kAuto ?_
    exact XJ.ret1 rfl rfl [_] (by exact kGives) ⟨⟨_, _, _, rfl⟩, rfl⟩
theorem iclip_spec (w0 : World) (A : Option Addr) (n c : Nat) (hc : n ≤ c) : Spec Tryz.prog w0 134 #[.slice A n c] [] (Is (.slice A n n)) := by
  refine Spec.enter (args := [_]) Tryz.func134 rfl rfl rfl (fun F => ?_)
  refine kAuto ?_
  apply RL.pur; (apply OpP.clip; exact kEv; exact kEv; exact kEv; exact hc); exact rfl
  refine kAuto ?_
  exact XJ.ret1 rfl rfl [] (by exact kGives) ⟨rfl, rfl⟩
theorem sclip_spec (w0 : World) (A : Option Addr) (n c : Nat) (hc : n ≤ c) : Spec Tryz.prog w0 133 #[.slice A n c] [] (Is (.slice A n n)) := by
  refine Spec.enter (args := [_]) Tryz.func133 rfl rfl rfl (fun F => ?_)
  refine kAuto ?_
  apply RL.pur; (apply OpP.clip; exact kEv; exact kEv; exact kEv; exact hc); exact rfl
  refine kAuto ?_
  exact XJ.ret1 rfl rfl [] (by exact kGives) ⟨rfl, rfl⟩
theorem mclone_spec (w0 : World) (r : Nat) (m : ByteArray → Option Value) (pre : List HProp) (hm : ∀ M, HasMap w0 (pre ++ M) Value.string r m) :
    Spec Tryz.prog w0 91 #[.map (some r)] pre (Ret (fun v N => ∃ r', v = .map (some r') ∧ N = mp Value.string r' m :: pre) noP) := by
  refine Spec.enter (args := [_]) Tryz.func91 rfl rfl rfl (fun F => ?_)
  refine kAuto ?_
  apply RL.pur; (apply OpP.eqNilMap; exact kEv; exact kEv); exact rfl
  refine kAuto ?_
  refine RL.clone (by exact kEv) (by exact kEv) (hm _) rfl (fun r' => ?_)
  apply RL.pur; (apply OpP.typeAssert; exact kEv); exact rfl
  refine kAuto ?_
  exact XJ.ret1 rfl rfl (_ :: pre) (Gives.refl _) ⟨_, rfl, rfl⟩

theorem add_spec (w0 : World) (bc : Nat) (task : Int) (vv va vs : Value) (Ao : Option Addr) (k co : Nat) (xs : List Value) (Ap : Option Addr) (np cp : Nat) (ps : List Value) (e : Int) (name : ByteArray) (hk : k ≤ 100000000000) (hp : np ≤ 1000000000000) :
    Spec Tryz.prog w0 88 #[.pointer (some ⟨bc, 0, none⟩), .slice Ap np cp, .int .i64 e, .string name]
      [cel bc 166 [.int .i64 task, vv, va, vs, .slice Ao k co], row 212 4 (.slice Ao k co) k xs, rrow 3 1 (.slice Ap np cp) np ps]
      (Ret (fun v N => v = .tuple #[] ∧ ∃ A' c' xs', N = [cel bc 166 [.int .i64 task, vv, va, vs, .slice A' (k + 1) c'], row 212 4 (.slice A' (k + 1) c') (k + 1) xs', rrow 3 1 (.slice Ap np cp) np ps]) noP) := by
  refine Spec.enter (args := [_, _, _, _]) Tryz.func88 rfl rfl rfl (fun F => ?_)
  refine kAuto ?_
  (refine CJ.draws mixed 16 [cel bc _ _] (by exact kGives) (dom_of (by kernel_rfl)) ?_)
  ((first | refine kAj 0 ?_ | refine kAjS 0 ?_); (first | refine kAj 1 ?_ | refine kAjS 1 ?_); (first | refine kAj 2 ?_ | refine kAjS 2 ?_); (first | refine kAj 3 ?_ | refine kAjS 3 ?_); (first | refine kAj 4 ?_ | refine kAjS 4 ?_); (first | refine kAj 5 ?_ | refine kAjS 5 ?_); (first | refine kAj 6 ?_ | refine kAjS 6 ?_); (first | refine kAj 7 ?_ | refine kAjS 7 ?_); (first | refine kAj 8 ?_ | refine kAjS 8 ?_); (first | refine kAj 9 ?_ | refine kAjS 9 ?_))
  (first | refine kAj 11 ?_ | refine kAjS 11 ?_)
  (first | refine kAj 12 ?_ | refine kAjS 12 ?_)
  (refine AJ.loud1 (i := 10) (by kernel_rfl) (by kernel_rfl) rfl (by kernel_rfl) (by kernel_rfl) rfl rfl rfl rfl rfl rfl (OpS.call (by exact kEv) inferInstance (by exact kEvl) (Takes.there (Takes.there (Takes.here _ _))) (iclone_spec w0 Ap np cp ps hp)) ?_ ?_)
  · rintro _ _ ⟨N, ⟨⟨A1, l1, c1, rfl⟩, rfl⟩, rfl⟩
    refine ⟨by exact kGives, ?_⟩
    refine kAj 13 ?_
    (refine AJ.loud1 (i := 14) (by kernel_rfl) (by kernel_rfl) rfl (by kernel_rfl) (by kernel_rfl) rfl rfl rfl rfl rfl rfl (OpS.buildSlice (E := 212) [.int .i64 task, .slice A1 l1 c1, .int .i64 e, .string name] rfl (by exact kEvl) (fun w => by kernel_rfl)) ?_ ?_)
    · rintro _ _ ⟨b, rfl, rfl⟩
      refine ⟨by exact kGives, ?_⟩
      (refine AJ.loud1 (i := 15) (by kernel_rfl) (by kernel_rfl) rfl (by kernel_rfl) (by kernel_rfl) rfl rfl rfl rfl rfl rfl (OpS.append (m := 1) (news := [.int .i64 task, .slice A1 l1 c1, .int .i64 e, .string name]) (by exact kEv) (by exact kEv) (Takes.there (Takes.there (Takes.there (Takes.here _ _)))) (fun h m => ⟨rfl, by simp [Value.oneCell'], .inr ⟨_, _, _, rfl, HasAt.pt (Takes.here _ _) atAll⟩⟩) (by simp only [maxLen]; omega) (by omega)) ?_ ?_)
      · rintro _ _ ⟨⟨A2, c2, rfl⟩, rfl⟩
        refine ⟨by exact kGives, ?_⟩
        (refine AJ.tail (by kernel_rfl) (by kernel_rfl) rfl (by kernel_rfl) (by kernel_rfl) (by kernel_rfl) ?_)
        refine kAuto ?_
        (apply RL.store; exact kEv; exact kEv; exact kTake; exact rfl; exact rfl; exact rfl)
        refine kAuto ?_
        exact XJ.end0 rfl [_, _, _] (by exact kGives) ⟨rfl, _, _, _, rfl⟩
      · rintro _ _ h; exact h.elim
    · rintro _ _ h; exact h.elim
  · rintro _ _ ⟨_, h, _⟩; exact h.elim
end Go.Proofs.YtgmapenlgammfaaGreatDoor
