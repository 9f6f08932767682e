/- The package ast: the tests on whole trees, and a tree's numbers. -/
import Derived.Test.YtgmapenlgammfaaGreatDoorTree
set_option linter.all false
namespace Go.Proofs.YtgmapenlgammfaaGreatDoor
open Go

theorem dom_of {L : Env} {n : Nat} (h : (L.all fun p => Nat.blt p.1 n) = true) : ∀ t v, L.get t = some v → t < n := by
  induction L with
  | nil => intro t v e; cases e
  | cons p r ih =>
    obtain ⟨k, u⟩ := p
    intro t v e
    simp only [List.all_cons, Bool.and_eq_true] at h
    simp only [Env.get] at e
    cases hb : Nat.beq k t with
    | true =>
      have := Nat.eq_of_beq_eq_true hb
      subst this
      simpa [Nat.blt_eq] using h.1
    | false => rw [hb] at e; exact ih h.2 t v (by simpa using e)
section
attribute [local semireducible] Gives Takes
theorem Gives.skipApp {N M X : List HProp} (k : Gives M X) : Gives (N ++ M) X := fun h s => by
  obtain ⟨h1, h2, l1, l2, _, _, m⟩ := s.split
  exact k h (m.mono l2)
end
theorem AJ.pur {P : Program} {w0 : World} {n : Nat} {ops : Array Oper} {Q : Exit → Act → World → Prop} {Mro : List HProp} {k : Nat} {D : List Nat} {L : Env} {M : List HProp}
    {i d : Nat} {op : Op} {T : TypeId} {p : String} {af : Array Edge} {gd : Option (Nat × Bool)} {v : Value} (ho : ops[i]? = some ⟨some d, op, T, p, af, gd⟩) (hik : Nat.blt i k = true) (hk : Nat.ble k ops.size = true) (hD : D.contains i = false) (hf : L.get d = none) (hd : Nat.blt d n = true)
    (hns : notSel ⟨some d, op, T, p, af, gd⟩ = true) (hlk : ((Oper.looksAt ops ⟨some d, op, T, p, af, gd⟩).all fun t => (L.get t).isSome) = true)
    (hw : wantedL ops L ⟨some d, op, T, p, af, gd⟩ = some true) (hrun : OpP P w0 L Mro ⟨some d, op, T, p, af, gd⟩ v)
    (kk : AJ P w0 n ops Q Mro k (i :: D) ((d, v) :: L) M) : AJ P w0 n ops Q Mro k D L M := AJ.step ho hik hk hD hf hd hns hlk (.inl ⟨hw, hrun⟩) kk
theorem kAj {P : Program} {w0 : World} {n : Nat} {ops : Array Oper} {Q : Exit → Act → World → Prop} {Mro : List HProp} {k : Nat} {D : List Nat} {L : Env} {M : List HProp}
    {d : Nat} {op : Op} {T : TypeId} {p : String} {af : Array Edge} {gd : Option (Nat × Bool)} {v : Value} (i : Nat) (kk : AJ P w0 n ops Q Mro k (i :: D) ((d, v) :: L) M)
    (ho : ops[i]? = some ⟨some d, op, T, p, af, gd⟩ := by exact rfl) (hik : Nat.blt i k = true := by exact rfl) (hk : Nat.ble k ops.size = true := by exact rfl) (hD : D.contains i = false := by exact rfl) (hf : L.get d = none := by exact rfl) (hd : Nat.blt d n = true := by exact rfl)
    (hns : notSel ⟨some d, op, T, p, af, gd⟩ = true := by exact rfl) (hlk : ((Oper.looksAt ops ⟨some d, op, T, p, af, gd⟩).all fun t => (L.get t).isSome) = true := by exact rfl)
    (hw : wantedL ops L ⟨some d, op, T, p, af, gd⟩ = some true := by exact rfl) (hrun : OpP P w0 L Mro ⟨some d, op, T, p, af, gd⟩ v := by exact kPure) : AJ P w0 n ops Q Mro k D L M := AJ.pur ho hik hk hD hf hd hns hlk hw hrun kk
theorem kAjS {P : Program} {w0 : World} {n : Nat} {ops : Array Oper} {Q : Exit → Act → World → Prop} {Mro : List HProp} {k : Nat} {D : List Nat} {L : Env} {M : List HProp}
    {d : Nat} {op : Op} {T : TypeId} {p : String} {af : Array Edge} {gd : Option (Nat × Bool)} (i : Nat) (kk : AJ P w0 n ops Q Mro k (i :: D) ((d, undef) :: L) M)
    (ho : ops[i]? = some ⟨some d, op, T, p, af, gd⟩ := by exact rfl) (hik : Nat.blt i k = true := by exact rfl) (hk : Nat.ble k ops.size = true := by exact rfl) (hD : D.contains i = false := by exact rfl) (hf : L.get d = none := by exact rfl) (hd : Nat.blt d n = true := by exact rfl)
    (hns : notSel ⟨some d, op, T, p, af, gd⟩ = true := by exact rfl) (hlk : ((Oper.looksAt ops ⟨some d, op, T, p, af, gd⟩).all fun t => (L.get t).isSome) = true := by exact rfl)
    (hw : wantedL ops L ⟨some d, op, T, p, af, gd⟩ = some false := by exact rfl) : AJ P w0 n ops Q Mro k D L M := AJ.step ho hik hk hD hf hd hns hlk (.inr ⟨hw, rfl⟩) kk
theorem Spec.rebaseR {P : Program} {w0 : World} {f : FuncId} {args : Array Value} {M : List HProp} {K : Value → List HProp → Prop} {KP : List PanicEntry → List HProp → Prop}
    (k : ∀ w h, star M h → Sat w0 w h → Spec P w f args [] (Ret K KP)) : Spec P w0 f args M (Ret (fun v M' => ∃ N, K v N ∧ M' = N ++ M) (fun c M' => ∃ N, KP c N ∧ M' = N ++ M)) :=
  (Spec.rebase k).mono fun e M' ⟨N, h1, h2⟩ => by
    cases e with
    | returned v => exact ⟨N, h1, h2⟩
    | panicked c => exact ⟨N, h1, h2⟩
    | outgrown => exact h1.elim
theorem Spec.rebaseIs {P : Program} {w0 : World} {f : FuncId} {args : Array Value} {M : List HProp} {x : Value}
    (k : ∀ w h, star M h → Sat w0 w h → Spec P w f args [] (Is x)) : Spec P w0 f args M (Ret (fun v M' => v = x ∧ M' = M) noP) :=
  (Spec.rebaseR k).mono fun e M' h => by
    cases e with
    | returned v => obtain ⟨N, ⟨h1, h2⟩, h3⟩ := h; subst h2; exact ⟨h1, h3⟩
    | panicked c => obtain ⟨N, h1, h2⟩ := h; exact h1.elim
    | outgrown => exact h.elim
theorem isExpr_spec (w0 : World) (hT : Tab w0) (n : Node) (cs : List Value) (hs : n.size < 4611686018427387904) (hR : NodeR w0 n cs) :
    Spec Tryz.prog w0 37 #[.agg cs.toArray] [] (Is (.bool (isB n 1))) := by
  obtain ⟨A, cap, hcs, _⟩ := hR.kids
  subst hcs
  refine Spec.enter (args := [_]) Tryz.func37 rfl rfl rfl (fun F => ?_)
  refine kAuto ?_
  (apply RL.boxR; exact kEv; exact rfl; intro b1)
  refine kAuto ?_
  (refine CJ.draws mixed 3 [rcel b1 50 _] (by exact kGives) (dom_of (by kernel_rfl)) ?_)
  refine kAj 1 ?_
  (refine AJ.loud1 (i := 0) (by kernel_rfl) (by kernel_rfl) rfl (by kernel_rfl) (by kernel_rfl) rfl rfl rfl rfl rfl rfl (OpS.call (by exact kEv) inferInstance (by exact kEvl) (Takes.nil _) (forms_spec w0)) ?_ ?_)
  · rintro _ _ ⟨N, ⟨r, rfl, hN⟩, rfl⟩
    refine ⟨Gives.skipApp (by exact kGives), ?_⟩
    (refine AJ.loud1 (i := 2) (by kernel_rfl) (by kernel_rfl) rfl (by kernel_rfl) (by kernel_rfl) rfl rfl rfl rfl rfl rfl (OpS.call (by exact kEv) inferInstance (by exact kEvl) (Takes.app _ _) (Spec.rebaseIs (fun w h hm s => is_spec w (hT.sat s) r (hN w h hm s) _ n _ 1 (Nat.le_refl _) hs (hR.up s.below)))) ?_ ?_)
    · rintro _ _ ⟨N', ⟨rfl, rfl⟩, rfl⟩
      refine ⟨Gives.skipApp (by exact kGives), ?_⟩
      (refine AJ.tail (by kernel_rfl) (by kernel_rfl) rfl (by kernel_rfl) (by kernel_rfl) (by kernel_rfl) ?_)
      refine kAuto ?_
      exact XJ.ret1 rfl rfl [] (Gives.skipApp (by exact kGives)) ⟨rfl, rfl⟩
    · rintro _ _ ⟨_, h, _⟩; exact h.elim
  · rintro _ _ ⟨_, h, _⟩; exact h.elim
theorem isBlock_spec (w0 : World) (hT : Tab w0) (n : Node) (cs : List Value) (hs : n.size < 4611686018427387904) (hR : NodeR w0 n cs) :
    Spec Tryz.prog w0 127 #[.agg cs.toArray] [] (Is (.bool (isB n 8))) := by
  obtain ⟨A, cap, hcs, _⟩ := hR.kids
  subst hcs
  refine Spec.enter (args := [_]) Tryz.func127 rfl rfl rfl (fun F => ?_)
  refine kAuto ?_
  (apply RL.boxR; exact kEv; exact rfl; intro b1)
  refine kAuto ?_
  (refine CJ.draws mixed 3 [rcel b1 50 _] (by exact kGives) (dom_of (by kernel_rfl)) ?_)
  refine kAj 1 ?_
  (refine AJ.loud1 (i := 0) (by kernel_rfl) (by kernel_rfl) rfl (by kernel_rfl) (by kernel_rfl) rfl rfl rfl rfl rfl rfl (OpS.call (by exact kEv) inferInstance (by exact kEvl) (Takes.nil _) (forms_spec w0)) ?_ ?_)
  · rintro _ _ ⟨N, ⟨r, rfl, hN⟩, rfl⟩
    refine ⟨Gives.skipApp (by exact kGives), ?_⟩
    (refine AJ.loud1 (i := 2) (by kernel_rfl) (by kernel_rfl) rfl (by kernel_rfl) (by kernel_rfl) rfl rfl rfl rfl rfl rfl (OpS.call (by exact kEv) inferInstance (by exact kEvl) (Takes.app _ _) (Spec.rebaseIs (fun w h hm s => is_spec w (hT.sat s) r (hN w h hm s) _ n _ 8 (Nat.le_refl _) hs (hR.up s.below)))) ?_ ?_)
    · rintro _ _ ⟨N', ⟨rfl, rfl⟩, rfl⟩
      refine ⟨Gives.skipApp (by exact kGives), ?_⟩
      (refine AJ.tail (by kernel_rfl) (by kernel_rfl) rfl (by kernel_rfl) (by kernel_rfl) (by kernel_rfl) ?_)
      refine kAuto ?_
      exact XJ.ret1 rfl rfl [] (Gives.skipApp (by exact kGives)) ⟨rfl, rfl⟩
    · rintro _ _ ⟨_, h, _⟩; exact h.elim
  · rintro _ _ ⟨_, h, _⟩; exact h.elim

/-! numbers of a tree -/
section
attribute [local semireducible] OpP Ev
theorem OpP.max {P : Program} {w0 : World} {L : Env} {M : List HProp} {d : Option Tmp} {T : TypeId} {p : String} {af : Array Edge} {g : Option (Nat × Bool)} {ts : Array TypeId} {x y : Operand} {k : IntKind} {i j : Int} (hx : Ev L x (.int k i)) (hy : Ev L y (.int k j)) :
    OpP P w0 L M ⟨d, .call { callee := .builtin .max, args := #[x, y], argTypes := ts }, T, p, af, g⟩ (.int k (if j > i then j else i)) := fun n a w h s _ _ => by
  simp [execOp, resolve, invoke, builtin, Builtin.max_, Builtin.max2, hx n a s, hy n a s]
end
theorem sum_spec (w0 : World) (a b : Int) : Spec Tryz.prog w0 62 #[.int .i64 a, .int .i64 b] [] (Is (.int .i64 (IntKind.i64.wrap (a + b)))) := by
  refine Spec.enter (args := [_, _]) Tryz.func62 rfl rfl rfl (fun F => ?_)
  refine kAuto ?_
  exact XJ.ret1 rfl rfl [] (by exact kGives) ⟨rfl, rfl⟩
theorem greater_spec (w0 : World) (a b : Int) : Spec Tryz.prog w0 161 #[.int .i64 a, .int .i64 b] [] (Is (.int .i64 (if b > a then b else a))) := by
  refine Spec.enter (args := [_, _]) Tryz.func161 rfl rfl rfl (fun F => ?_)
  refine kAuto ?_
  apply RL.pur; (apply OpP.max; exact kEv; exact kEv); exact rfl
  refine kAuto ?_
  exact XJ.ret1 rfl rfl [] (by exact kGives) ⟨rfl, rfl⟩
theorem foldl_take {α β : Type} (f : β → α → β) (b : β) (l : List α) (i : Nat) (h : i < l.length) : (l.take (i + 1)).foldl f b = f ((l.take i).foldl f b) l[i] := by
  rw [List.take_succ_eq_append_getElem h, List.foldl_append]
  rfl
theorem fold_spec (w0 : World) (n : Node) (cs : List Value) (k c : FuncId) (g : Node → Int) (f : Int → Int → Int) (hs : n.size < 4611686018427387904) (hR : NodeR w0 n cs) (ck : CallT Tryz.prog k) (cc : CallT Tryz.prog c)
    (hk : ∀ i (hi : i < n.kids.length) r, NodeR w0 n.kids[i] r → Spec Tryz.prog w0 k #[.agg r.toArray] [] (Is (.int .i64 (g n.kids[i]))))
    (hc : ∀ a b, Spec Tryz.prog w0 c #[.int .i64 a, .int .i64 b] [] (Is (.int .i64 (f a b)))) :
    Spec Tryz.prog w0 61 #[.agg cs.toArray, .func (.func k) #[] #[], .func (.func c) #[] #[]] [] (Is (.int .i64 (n.kids.foldl (fun a m => f a (g m)) 0))) := by
  obtain ⟨A, cap, hcs, hcap, hN⟩ := hR.kids
  subst hcs
  have hkl := n.kids_le
  refine Spec.enter (args := [_, _, _]) Tryz.func61 rfl rfl rfl (fun F => ?_)
  refine kAuto ?_
  (apply RL.boxR; exact kEv; exact rfl; intro b1)
  refine kAuto ?_
  refine CJ.loop (σ := Nat) (fun i => i ≤ n.kids.length) (fun i => [(13, .int .i64 (i : Int)), (7, .int .i64 ((n.kids.take i).foldl (fun a m => f a (g m)) 0)), (1, .func (.func k) #[] #[]), (2, .func (.func c) #[] #[]), (11, .slice A n.kids.length cap), (12, .int .i64 n.kids.length)]) (fun _ => F) (fun i => n.kids.length - i) 0 (Nat.zero_le _) (by exact kEsub) (by exact kGives) ?_
  intro i hi
  refine kAuto ?_
  cases hlt : decide ((i : Int) < (n.kids.length : Int))
  · have hge : i = n.kids.length := by have := of_decide_eq_false hlt; omega
    refine kAuto ?_
    refine XJ.ret1 rfl rfl [] (by exact kGives) ⟨?_, rfl⟩
    rw [hge, List.take_length]
  · have hlt' : i < n.kids.length := by have := of_decide_eq_true hlt; omega
    obtain ⟨b, o, r, rfl, hb, hrl, hr⟩ := hN.at_ i hlt'
    obtain ⟨A2, c2, e2, _⟩ := hr.kids
    refine kAuto ?_
    apply RL.pur; (apply OpP.indexAddr; exact kEv; exact kEv; exact hlt'); exact rfl
    apply RL.pur; (apply OpP.loadA; exact kEv; exact HasAt.base hb; exact hrl); exact rfl
    (apply RL.alloc; exact rfl; exact rfl; intro b3)
    (apply RL.storeW; exact kEv; exact kEv; exact kTake; exact hrl; exact rfl; exact (by rw [e2]; rfl))
    refine kAuto ?_
    (apply RL.callIs (first := []) (cap := []); exact kEv; exact ck; exact kEvl; exact hk i hlt' r hr; exact rfl)
    (apply RL.callIs (first := []) (cap := []); exact kEv; exact cc; exact kEvl; exact hc _ _; exact rfl)
    refine kAuto ?_
    rw [i64_succ i (by omega)]
    refine XJ.round (i + 1) (by omega) (by omega) ?_ (by exact kGives)
    rw [foldl_take _ _ _ i hlt']
    exact kEsub
mutual
def sizeI : Node → Int
  | .mk _ _ _ l => IntKind.i64.wrap (1 + sizeF l 0)
def sizeF : List Node → Int → Int
  | [], a => a
  | n :: r, a => sizeF r (IntKind.i64.wrap (a + sizeI n))
end
mutual
def depthI : Node → Int
  | .mk _ _ _ l => IntKind.i64.wrap (1 + depthF l 0)
def depthF : List Node → Int → Int
  | [], a => a
  | n :: r, a => depthF r (if depthI n > a then depthI n else a)
end
mutual
def nestI : Node → Int
  | .mk k _ _ l => if k = 42 ∨ k = 43 then IntKind.i64.wrap (nestF l 0 + 1) else nestF l 0
def nestF : List Node → Int → Int
  | [], a => a
  | n :: r, a => nestF r (if nestI n > a then nestI n else a)
end
theorem sizeF_eq (l : List Node) : ∀ a, sizeF l a = l.foldl (fun a m => IntKind.i64.wrap (a + sizeI m)) a := by
  induction l with
  | nil => intro a; rfl
  | cons n r ih => intro a; rw [sizeF, ih]; rfl
theorem depthF_eq (l : List Node) : ∀ a, depthF l a = l.foldl (fun a m => if depthI m > a then depthI m else a) a := by
  induction l with
  | nil => intro a; rfl
  | cons n r ih => intro a; rw [depthF, ih]; rfl
theorem nestF_eq (l : List Node) : ∀ a, nestF l a = l.foldl (fun a m => if nestI m > a then nestI m else a) a := by
  induction l with
  | nil => intro a; rfl
  | cons n r ih => intro a; rw [nestF, ih]; rfl
theorem size_spec (w0 : World) : ∀ (m : Nat) (n : Node) (cs : List Value), n.size ≤ m → n.size < 4611686018427387904 → NodeR w0 n cs → Spec Tryz.prog w0 28 #[.agg cs.toArray] [] (Is (.int .i64 (sizeI n))) := by
  intro m
  induction m with
  | zero => intro n cs h; have := n.size_pos; omega
  | succ m ih =>
    intro n cs hm hs hR
    have hf := fold_spec w0 n cs 28 62 sizeI (fun a b => IntKind.i64.wrap (a + b)) hs hR inferInstance inferInstance (fun i hi r hr => ih _ r (by have := Node.size_kid (List.getElem_mem hi); omega) (by have := Node.size_kid (List.getElem_mem hi); omega) hr) (sum_spec w0)
    obtain ⟨A, cap, hcs, _⟩ := hR.kids
    subst hcs
    refine Spec.enter (args := [_]) Tryz.func28 rfl rfl rfl (fun F => ?_)
    refine kAuto ?_
    (apply RL.boxR; exact kEv; exact rfl; intro b1)
    refine kAuto ?_
    (apply RL.callIs; exact kEv; exact inferInstance; exact kEvl; exact hf; exact rfl)
    refine kAuto ?_
    refine XJ.ret1 rfl rfl [] (by exact kGives) ⟨?_, rfl⟩
    cases n
    rw [sizeI, sizeF_eq]
    rfl
theorem depth_spec (w0 : World) : ∀ (m : Nat) (n : Node) (cs : List Value), n.size ≤ m → n.size < 4611686018427387904 → NodeR w0 n cs → Spec Tryz.prog w0 128 #[.agg cs.toArray] [] (Is (.int .i64 (depthI n))) := by
  intro m
  induction m with
  | zero => intro n cs h; have := n.size_pos; omega
  | succ m ih =>
    intro n cs hm hs hR
    have hf := fold_spec w0 n cs 128 161 depthI (fun a b => if b > a then b else a) hs hR inferInstance inferInstance (fun i hi r hr => ih _ r (by have := Node.size_kid (List.getElem_mem hi); omega) (by have := Node.size_kid (List.getElem_mem hi); omega) hr) (greater_spec w0)
    obtain ⟨A, cap, hcs, _⟩ := hR.kids
    subst hcs
    refine Spec.enter (args := [_]) Tryz.func128 rfl rfl rfl (fun F => ?_)
    refine kAuto ?_
    (apply RL.boxR; exact kEv; exact rfl; intro b1)
    refine kAuto ?_
    (apply RL.callIs; exact kEv; exact inferInstance; exact kEvl; exact hf; exact rfl)
    refine kAuto ?_
    refine XJ.ret1 rfl rfl [] (by exact kGives) ⟨?_, rfl⟩
    cases n
    rw [depthI, depthF_eq]
    rfl
theorem nest_spec (w0 : World) : ∀ (m : Nat) (n : Node) (cs : List Value), n.size ≤ m → n.size < 4611686018427387904 → NodeR w0 n cs → Spec Tryz.prog w0 129 #[.agg cs.toArray] [] (Is (.int .i64 (nestI n))) := by
  intro m
  induction m with
  | zero => intro n cs h; have := n.size_pos; omega
  | succ m ih =>
    intro n cs hm hs hR
    have hf := fold_spec w0 n cs 129 161 nestI (fun a b => if b > a then b else a) hs hR inferInstance inferInstance (fun i hi r hr => ih _ r (by have := Node.size_kid (List.getElem_mem hi); omega) (by have := Node.size_kid (List.getElem_mem hi); omega) hr) (greater_spec w0)
    obtain ⟨A, cap, hcs, _⟩ := hR.kids
    subst hcs
    obtain ⟨kd, num, nm, kids⟩ := n
    simp only [Node.kind, Node.num, Node.name, Node.kids] at *
    refine Spec.enter (args := [_]) Tryz.func129 rfl rfl rfl (fun F => ?_)
    refine kAuto ?_
    (apply RL.boxR; exact kEv; exact rfl; intro b1)
    refine kAuto ?_
    (apply RL.callIs; exact kEv; exact inferInstance; exact kEvl; exact hf; exact rfl)
    refine kAuto ?_
    cases h1 : kd == 42
    · refine kAuto ?_
      cases h2 : kd == 43
      · refine kAuto ?_
        refine XJ.ret1 rfl rfl [] (by exact kGives) ⟨?_, rfl⟩
        rw [nestI, nestF_eq, if_neg (by simp at h1 h2; omega)]
      · refine kAuto ?_
        refine XJ.ret1 rfl rfl [] (by exact kGives) ⟨?_, rfl⟩
        rw [nestI, nestF_eq, if_pos (by simp at h1 h2; omega)]
    · refine kAuto ?_
      refine XJ.ret1 rfl rfl [] (by exact kGives) ⟨?_, rfl⟩
      rw [nestI, nestF_eq, if_pos (by simp at h1; omega)]
end Go.Proofs.YtgmapenlgammfaaGreatDoor
