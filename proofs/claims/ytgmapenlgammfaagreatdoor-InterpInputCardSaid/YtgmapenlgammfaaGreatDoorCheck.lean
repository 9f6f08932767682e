/- The package check: the faults of a program. -/
import Derived.Test.YtgmapenlgammfaaGreatDoorDeclare
set_option linter.all false
namespace Go.Proofs.YtgmapenlgammfaaGreatDoor
open Go
section
attribute [local semireducible] Takes Gives
theorem AJ.frz {P : Program} {w0 : World} {n : Nat} {ops : Array Oper} {Q : Exit → Act → World → Prop} {Mro : List HProp} {k : Nat} {D : List Nat} {L : Env} {M M' : List HProp} {A B : HProp} (g : Takes M [A] M') (f : Frz A B) (hm : Gives (B :: M') Mro) (kk : AJ P w0 n ops Q Mro k D L (B :: M')) : AJ P w0 n ops Q Mro k D L M := by
  intro g0 fuel Z listed a w h r hp m s hc
  obtain ⟨h', m', s'⟩ := f.star s (g h m)
  exact kk hm fuel Z listed a w h' r hp m' s' hc
end
theorem OpP.buildB {P : Program} {w0 : World} {L : Env} {M : List HProp} {T : TypeId} {p : String} {af : Array Edge} {d : Option Tmp} {g : Option (Nat × Bool)} {t q : Nat} {ps : List (Nat × Operand)} {xs : List Operand} {vs : List Value} [k : AggT P t q] (hp : ps.map (·.2) = xs) (hx : EvL L xs vs) (hq : Nat.beq vs.length q = true) (hr : ∀ w, (Instr.build t ((ps.map (·.1)).zip vs).toArray).run P w = .ok (.agg vs.toArray) w) : OpP P w0 L M ⟨d, .build t ps.toArray, T, p, af, g⟩ (.agg vs.toArray) := OpP.build hx hp hr
theorem kPureB {P : Program} {w0 : World} {L : Env} {M : List HProp} {o : Oper} {v : Value} (h : OpP P w0 L M o v := by (first | (apply OpP.move; exact kEv) | (apply OpP.assign; exact kEv) | (apply OpP.fieldAddr; exact kEv) | (apply OpP.load; exact kEv; exact kHas) | (apply OpP.loadA; exact kEv; exact kHasA; (first | exact rfl | assumption)) | (apply OpP.lookupSet; exact kEv; exact kEv; exact kHasm) | (apply OpP.loadSr; exact kEv; exact kTake; exact rfl) | (apply OpP.loadSp; exact kEv; exact kTake; exact rfl) | (apply OpP.pickT; exact kEv; exact kEv) | (apply OpP.pickF; exact kEv; exact kEv) | (apply OpP.notT; exact kEv) | (apply OpP.notF; exact kEv) | (apply OpP.not; exact kEv) | (apply OpP.nilCheck; exact kEv) | (apply OpP.eql; exact kEv; exact kEv) | (apply OpP.neq; exact kEv; exact kEv) | (apply OpP.lss; exact kEv; exact kEv) | (apply OpP.leq; exact kEv; exact kEv) | (apply OpP.gtr; exact kEv; exact kEv) | (apply OpP.geq; exact kEv; exact kEv) | (apply OpP.add; exact kEv; exact kEv) | (apply OpP.sub; exact kEv; exact kEv) | (apply OpP.mul; exact kEv; exact kEv) | (apply OpP.and; exact kEv; exact kEv) | (apply OpP.or; exact kEv; exact kEv) | (apply OpP.xor; exact kEv; exact kEv) | (apply OpP.convert; exact kEv) | (apply OpP.extract; exact kEv; exact rfl) | (apply OpP.len; exact kEv) | (apply OpP.slen; exact kEv) | (apply OpP.neg; exact kEv) | (apply OpP.seql; exact kEv; exact kEv) | (apply OpP.sneq; exact kEv; exact kEv) | (apply OpP.field; exact kEv; exact rfl) | (apply OpP.makeFunc; exact kEvl; exact kEvl) | (apply OpP.makeInterface; exact kEv) | (apply OpP.buildB; exact rfl; exact kEvl; exact rfl; (intro w; kernel_rfl)))) : OpP P w0 L M o v := h
theorem kAutoB {G G' : Prop} (k : G') (h : KW G' → G := by
  intro k
  (repeat (first | (apply RL.pur; exact kPureB; exact rfl) | refine CJ.seq ?_ | refine CJ.region ?_ | refine RL.nil ?_ | refine XJ.next ?_ | refine CJ.block ?_ | refine CJ.skip ?_ | refine CJ.ret ?_ | refine CJ.exit ?_ | refine XJ.then_ret ?_ | refine XJ.block_ret ?_ | refine XJ.block_normal ?_ | refine XJ.then_exit ?_ | refine XJ.block_exit ?_ | refine XJ.block_other rfl ?_ | refine XJ.then_panic ?_ | refine XJ.block_panic ?_ | (refine CJ.condT ?_ ?_; exact kEv) | (refine CJ.condF ?_ ?_; exact kEv) | (refine RL.guardT rfl rfl ?_) | (refine RL.guardF rfl rfl rfl rfl ?_) | (refine RL.guardU rfl rfl rfl ?_)))
  exact KW.out k) : G := h ⟨k⟩
theorem kAjB {P : Program} {w0 : World} {n : Nat} {ops : Array Oper} {Q : Exit → Act → World → Prop} {Mro : List HProp} {k : Nat} {D : List Nat} {L : Env} {M : List HProp}
    {d : Nat} {op : Op} {T : TypeId} {p : String} {af : Array Edge} {gd : Option (Nat × Bool)} {v : Value} (i : Nat) (kk : AJ P w0 n ops Q Mro k (i :: D) ((d, v) :: L) M)
    (ho : ops[i]? = some ⟨some d, op, T, p, af, gd⟩ := by exact rfl) (hik : Nat.blt i k = true := by exact rfl) (hk : Nat.ble k ops.size = true := by exact rfl) (hD : D.contains i = false := by exact rfl) (hf : L.get d = none := by exact rfl) (hd : Nat.blt d n = true := by exact rfl)
    (hns : notSel ⟨some d, op, T, p, af, gd⟩ = true := by exact rfl) (hlk : ((Oper.looksAt ops ⟨some d, op, T, p, af, gd⟩).all fun t => (L.get t).isSome) = true := by exact rfl)
    (hw : wantedL ops L ⟨some d, op, T, p, af, gd⟩ = some true := by exact rfl) (hrun : OpP P w0 L Mro ⟨some d, op, T, p, af, gd⟩ v := by exact kPureB) : AJ P w0 n ops Q Mro k D L M := AJ.pur ho hik hk hD hf hd hns hlk hw hrun kk
theorem RL.build {P : Program} {w0 : World} {n : Nat} {ops : Array Oper} {Q : Exit → Act → World → Prop} {L : Env} {M : List HProp} {l : List Oper} {T : TypeId} {p : String} {af : Array Edge} {d : Nat} {t : TypeId} {ps : List (Nat × Operand)} {xs : List Operand} {vs : List Value} {r : Value} (hp : ps.map (·.2) = xs) (hx : EvL L xs vs) (hr : ∀ w, (Instr.build t ((ps.map (·.1)).zip vs).toArray).run P w = .ok r w) (hd : Nat.blt d n = true)
    (k : RL P w0 n ops Q l ((d, r) :: L) M) : RL P w0 n ops Q (⟨some d, .build t ps.toArray, T, p, af, none⟩ :: l) L M := RL.pur (OpP.build hx hp hr) hd k
mutual
theorem sizeI_eq : ∀ n : Node, n.size < 4611686018427387904 → sizeI n = n.size
  | .mk k num s l, h => by
    rw [Node.size] at h
    rw [sizeI, sizeF_val l 0 (by omega) (by omega), Node.size]
    simp only [IntKind.wrap, IntKind.signed, IntKind.bits]
    simp
    omega
theorem sizeF_val : ∀ (l : List Node) (a : Int), 0 ≤ a → a + Node.sizeAll l < 4611686018427387904 → sizeF l a = a + Node.sizeAll l
  | [], a, _, _ => by simp [sizeF, Node.sizeAll]
  | n :: r, a, h0, h => by
    rw [Node.sizeAll] at h
    have h1 := sizeI_eq n (by omega)
    have e : IntKind.i64.wrap (a + sizeI n) = a + n.size := by
      rw [h1]
      simp only [IntKind.wrap, IntKind.signed, IntKind.bits]
      simp
      omega
    rw [sizeF, e, sizeF_val r _ (by omega) (by omega), Node.sizeAll]
    omega
end
def insB (s : ByteArray → Bool) (x : ByteArray) : ByteArray → Bool := fun j => decide (j = x) || s j
def stepS (p : Nat × (ByteArray → Bool)) (a : Arr) : Nat × (ByteArray → Bool) := (p.1 + (if p.2 a.name then 1 else 0), insB p.2 a.name)
def noneB : ByteArray → Bool := fun _ => false
def sharedB (p : Prg) : Nat × (ByteArray → Bool) := p.shared.foldl stepS (0, noneB)
def taskD (sh : ByteArray → Bool) (q : ByteArray → Bool) (t : Task) : Nat × Ctx := declT (if q t.name then 1 else 0, ⟨noneB, noneB, sh⟩) t
def stepT (sh : ByteArray → Bool) (p : Nat × (ByteArray → Bool)) (t : Task) : Nat × (ByteArray → Bool) :=
  (p.1 + ((taskD sh p.2 t).1 + visitN (taskD sh p.2 t).2 t.body false ⟨(taskD sh p.2 t).2.vars, noneB, []⟩), insB p.2 t.name)
/-- The number of faults of a program. -/
def checkN (p : Prg) : Nat := if validB p then (p.tasks.foldl (stepT (sharedB p).2) ((sharedB p).1, noneB)).1 else 0
def okB (p : Prg) : Bool := validB p && decide (checkN p = 0)
theorem declT_shared (p : Nat × Ctx) (t : Task) : (declT p t).2.shared = p.2.shared := by
  unfold declT
  have h1 : ∀ (l : List ByteArray) (p : Nat × Ctx), (l.foldl stepV p).2.shared = p.2.shared := by
    intro l
    induction l with
    | nil => intro p; rfl
    | cons x r ih => intro p; rw [List.foldl_cons, ih]; rfl
  have h2 : ∀ (l : List Arr) (p : Nat × Ctx), (l.foldl stepA p).2.shared = p.2.shared := by
    intro l
    induction l with
    | nil => intro p; rfl
    | cons x r ih => intro p; rw [List.foldl_cons, ih]; rfl
  rw [h2, h1]
theorem declT_le (p : Nat × Ctx) (t : Task) : (declT p t).1 ≤ p.1 + t.vars.length + t.arrays.length := by
  unfold declT
  have h1 : ∀ (l : List ByteArray) (p : Nat × Ctx), (l.foldl stepV p).1 ≤ p.1 + l.length := by
    intro l
    induction l with
    | nil => intro p; simp
    | cons x r ih => intro p; have := ih (stepV p x); have := hitN_le p.2 x; rw [List.foldl_cons]; simp only [stepV, List.length_cons] at *; omega
  have h2 : ∀ (l : List Arr) (p : Nat × Ctx), (l.foldl stepA p).1 ≤ p.1 + l.length := by
    intro l
    induction l with
    | nil => intro p; simp
    | cons x r ih => intro p; have := ih (stepA p x); have := hitN_le p.2 x.name; rw [List.foldl_cons]; simp only [stepA, List.length_cons] at *; omega
  have := h1 t.vars p
  have := h2 t.arrays (t.vars.foldl stepV p)
  omega
theorem task_sizes {t : Task} (h : taskB t = true) (hs : t.body.size < 4611686018427387904) : t.vars.length ≤ 12 ∧ t.arrays.length ≤ 4 ∧ t.body.size ≤ 400 := by
  unfold taskB at h
  simp only [Bool.and_eq_true, Bool.not_eq_true', decide_eq_false_iff_not, decide_eq_true_eq, arrsB] at h
  have e := sizeI_eq t.body hs
  omega
theorem check_spec (w0 : World) (hT : Tab w0) (p : Prg) (cs : List Value) (hf : Fit p) (hR : PrgR w0 p cs) :
    Spec Tryz.prog w0 52 #[.agg cs.toArray] [] (Ret (fun v _ => ∃ A c, v = .slice A (checkN p) c) noP) := by
  have hV := Valid_spec w0 hT p cs hf hR
  obtain ⟨A1, c1, A2, c2, rfl, h1, h2, h3, h4⟩ := hR.ex
  refine Spec.enter (args := [_]) Tryz.func52 rfl rfl rfl (fun F => ?_)
  refine kAutoB ?_
  (apply RL.boxR; exact kEv; exact rfl; intro b1)
  refine kAutoB ?_
  (apply RL.callIs; exact kEv; exact inferInstance; exact kEvl; exact hV; exact rfl)
  cases hv : validB p
  case false =>
    refine kAutoB ?_
    refine XJ.ret1 rfl rfl [] (by exact kGives) ⟨none, 0, ?_⟩
    rw [checkN, hv]; rfl
  refine kAutoB ?_
  refine RL.makeMap rfl Value.string (fun rs => ?_)
  rw [setM_none]
  refine kAutoB ?_
  (apply RL.build (r := .agg #[.int .i64 (-1), .map none, .map none, .map none, .slice none 0 0]); exact rfl; exact kEvl; (intro w; kernel_rfl); exact rfl)
  (apply RL.alloc; exact rfl; exact rfl; intro b4)
  (apply RL.storeA; exact kEv; exact kEv; exact kTake; exact rfl; exact rfl; exact rfl)
  refine kAutoB ?_
  generalize hcs : [Value.slice A1 p.shared.length c1, Value.slice A2 p.tasks.length c2] = pcs
  refine CJ.gives (row_nil 212 4) ?_
  refine CJ.loop (σ := Nat × Option Addr × Nat × Nat × List Value × (ByteArray → Bool)) (fun s => s.1 ≤ p.shared.length ∧ (s.2.2.1, s.2.2.2.2.2) = (p.shared.take s.1).foldl stepS (0, noneB) ∧ s.2.2.1 ≤ s.1)
    (fun s => [(20, .int .i64 (s.1 : Int)), (18, .slice A1 p.shared.length c1), (19, .int .i64 p.shared.length), (3, .map (some rs)), (4, .pointer (some ⟨b4, 0, none⟩)), (1, .pointer (some ⟨b1, 0, none⟩))])
    (fun s => cel b4 166 [.int .i64 (-1), .map none, .map none, .map none, .slice s.2.1 s.2.2.1 s.2.2.2.1] :: row 212 4 (.slice s.2.1 s.2.2.1 s.2.2.2.1) s.2.2.1 s.2.2.2.2.1 :: mp Value.string rs (setM s.2.2.2.2.2) :: rcel b1 25 pcs :: F)
    (fun s => p.shared.length - s.1) (0, none, 0, 0, [], noneB) ⟨Nat.zero_le _, by simp, Nat.le_refl _⟩ (by exact kEsub) (by exact kGives) ?_
  rintro ⟨i, Ao, k, co, xs, sh⟩ ⟨hi, hst, hk⟩
  simp only at hi hst hk
  have hsl := hf.shared
  have hvv := hv
  rw [validB, Bool.and_eq_true, Bool.and_eq_true, arrsB, Bool.and_eq_true] at hvv
  obtain ⟨⟨⟨hv1, hv2⟩, hv3⟩, hv4⟩ := hvv
  have hv1' : p.shared.length ≤ 4 := by have := of_decide_eq_true hv1; omega
  have hv3' : p.tasks.length ≤ 8 := by have := of_decide_eq_true hv3; omega
  refine kAutoB ?_
  cases hlt : decide ((i : Int) < (p.shared.length : Int))
  case true =>
    have hlt' : i < p.shared.length := by have := of_decide_eq_true hlt; omega
    obtain ⟨b, o, rfl, hrl, hb⟩ := h3.at_ i (by simpa using hlt')
    simp only [List.getElem_map, arrRow] at hb hrl
    refine kAutoB ?_
    apply RL.pur; (apply OpP.indexAddr; exact kEv; exact kEv; exact hlt'); exact rfl
    apply RL.pur; (apply OpP.loadA; exact kEv; exact HasAt.base hb; exact hrl); exact rfl
    (apply RL.alloc; exact rfl; exact rfl; intro b6)
    refine kAutoB ?_
    (apply RL.storeW; exact kEv; exact kEv; exact kTake; exact rfl; exact rfl; exact rfl)
    refine kAutoB ?_
    (refine CJ.cond (by exact kEv) (fun hh => ?_) (fun hh => ?_))
    · replace hh : sh p.shared[i].name = true := hh
      refine kAutoB ?_
      refine RL.gives (rrow_nil 3 1) ?_
      (apply RL.callK; exact kEv; exact inferInstance; exact kEvl; rotate_left; exact (add_spec w0 b4 (-1) (.map none) (.map none) (.map none) Ao k co xs none 0 0 [] 8 p.shared[i].name (by omega) (by omega)); rotate_right; exact (by (repeat (first | exact Takes.nil _ | (apply Takes.cons; (repeat (first | exact Takes.pers Pers.rmp | exact Takes.pers Pers.rrow | exact Takes.ro | exact Takes.here _ _ | apply Takes.there)))))); exact rfl)
      rintro _ _ ⟨rfl, A', c', xs', rfl⟩
      refine kAutoB ?_
      (apply RL.mapUpdate (enc := Value.string) (r := rs); exact kEv; exact kEv; exact kEv; exact kTake)
      rw [setM_upd]
      refine kAutoB ?_
      rw [i64_succ i (by omega)]
      refine XJ.round (i + 1, A', k + 1, c', xs', insB sh p.shared[i].name) ⟨by simp only; omega, ?_, by simp only; omega⟩ (by simp only; omega) (by exact kEsub) (by exact kGives)
      rw [foldl_take _ _ _ _ hlt', ← hst]
      simp [stepS, hh]
    · replace hh : sh p.shared[i].name = false := hh
      refine kAutoB ?_
      (apply RL.mapUpdate (enc := Value.string) (r := rs); exact kEv; exact kEv; exact kEv; exact kTake)
      rw [setM_upd]
      refine kAutoB ?_
      rw [i64_succ i (by omega)]
      refine XJ.round (i + 1, Ao, k, co, xs, insB sh p.shared[i].name) ⟨by simp only; omega, ?_, by simp only; omega⟩ (by simp only; omega) (by exact kEsub) (by exact kGives)
      rw [foldl_take _ _ _ _ hlt', ← hst]
      simp [stepS, hh]
  have hge : i = p.shared.length := by have := of_decide_eq_false hlt; omega
  subst hge
  rw [List.take_length] at hst
  have hsh : sharedB p = (k, sh) := by rw [hst]; rfl
  refine kAutoB ?_
  refine RL.makeMap rfl Value.string (fun rt => ?_)
  rw [setM_none]
  subst hcs
  refine kAutoB ?_
  refine CJ.frz (A := mp Value.string rs (setM sh)) (by exact kTake) Frz.mp ?_
  refine CJ.loop (σ := Nat × Option Addr × Nat × Nat × List Value × (ByteArray → Bool)) (fun s => s.1 ≤ p.tasks.length ∧ (s.2.2.1, s.2.2.2.2.2) = (p.tasks.take s.1).foldl (stepT sh) (k, noneB) ∧ s.2.2.1 ≤ 4 + 1000 * s.1)
    (fun s => [(41, .int .i64 (s.1 : Int)), (40, .int .i64 p.tasks.length), (39, .slice A2 p.tasks.length c2), (8, .map (some rt)), (3, .map (some rs)), (7, .slice s.2.1 s.2.2.1 s.2.2.2.1)])
    (fun s => row 212 4 (.slice s.2.1 s.2.2.1 s.2.2.2.1) s.2.2.1 s.2.2.2.2.1 :: mp Value.string rt (setM s.2.2.2.2.2) :: rmp Value.string rs (setM sh) :: F)
    (fun s => p.tasks.length - s.1) (0, Ao, k, co, xs, noneB) ⟨Nat.zero_le _, by simp, by simp only; omega⟩ (by exact kEsub) (by exact kGives) ?_
  rintro ⟨j, Ao2, k2, co2, xs2, T⟩ ⟨hj, hst2, hk2⟩
  simp only at hj hst2 hk2
  refine kAutoB ?_
  cases hlt : decide ((j : Int) < (p.tasks.length : Int))
  · have hge : j = p.tasks.length := by have := of_decide_eq_false hlt; omega
    subst hge
    rw [List.take_length] at hst2
    refine kAutoB ?_
    refine XJ.ret1 rfl rfl [] (by exact kGives) ⟨Ao2, co2, ?_⟩
    rw [checkN, if_pos hv, hsh, ← hst2]
  · have hlt' : j < p.tasks.length := by have := of_decide_eq_true hlt; omega
    obtain ⟨b, o, r, rfl, hb, hrl, hr⟩ := h4.at_ j hlt'
    have hfe := hf.each _ (List.getElem_mem hlt')
    have htb := List.all_eq_true.1 hv4 _ (List.getElem_mem hlt')
    obtain ⟨z1, z2, z3⟩ := task_sizes htb hfe.2.2
    have hr0 := hr
    obtain ⟨A5, c5, A6, c6, bs, rfl, g1, g2, g3, g4, g5⟩ := hr.ex
    have g50 := g5
    obtain ⟨A0, cap0, hbs, _⟩ := g5.kids
    subst hbs
    refine kAutoB ?_
    apply RL.pur; (apply OpP.indexAddr; exact kEv; exact kEv; exact hlt'); exact rfl
    apply RL.pur; (apply OpP.loadA; exact kEv; exact HasAt.base hb; exact hrl); exact rfl
    (apply RL.alloc; exact rfl; exact rfl; intro b10)
    refine kAutoB ?_
    (apply RL.storeW; exact kEv; exact kEv; exact kTake; exact rfl; exact rfl; exact rfl)
    refine kAutoB ?_
    refine RL.makeMap rfl Value.string (fun rv => ?_)
    refine RL.makeMap rfl Value.string (fun ra => ?_)
    rw [setM_none]
    refine kAutoB ?_
    (apply RL.build (r := .agg #[.int .i64 (j : Int), .map (some rv), .map (some ra), .map (some rs), .slice none 0 0]); exact rfl; exact kEvl; (intro w; kernel_rfl); exact rfl)
    (apply RL.alloc; exact rfl; exact rfl; intro b11)
    (apply RL.storeA; exact kEv; exact kEv; exact kTake; exact rfl; exact rfl; exact rfl)
    (repeat (first | (apply RL.pur; exact kPureB; exact rfl) | (refine RL.guardT rfl rfl ?_) | (refine RL.guardF rfl rfl rfl rfl ?_) | (refine RL.guardU rfl rfl rfl ?_) | refine RL.nil ?_))
    refine XJ.next ?_
    refine CJ.gives (row_nil 212 4) ?_
    refine CJ.seqI (σ := Option Addr × Nat × Nat × List Value) (fun s => s.2.1 = (if T p.tasks[j].name then 1 else 0)) (fun _ => [(10, .pointer (some ⟨b10, 0, none⟩)), (11, .pointer (some ⟨b11, 0, none⟩)), (41, .int .i64 (j : Int)), (40, .int .i64 p.tasks.length), (39, .slice (some ⟨b, o, none⟩) p.tasks.length c2), (8, .map (some rt)), (3, .map (some rs)), (7, .slice Ao2 k2 co2)])
      (fun s => cel b10 52 ([.string p.tasks[j].name, .int .i64 p.tasks[j].period, .slice A5 p.tasks[j].vars.length c5, .slice A6 p.tasks[j].arrays.length c6] ++ [.int .u8 p.tasks[j].body.kind, .int .i64 p.tasks[j].body.num, .string p.tasks[j].body.name, .slice A0 p.tasks[j].body.kids.length cap0]) :: (ckM b11 (j : Int) rv ra rs s.1 s.2.1 s.2.2.1 s.2.2.2 ++ (mp Value.string rv (setM noneB) :: mp Value.string ra (setM noneB) :: rmp Value.string rs (setM sh) :: row 212 4 (.slice Ao2 k2 co2) k2 xs2 :: mp Value.string rt (setM T) :: F))) ?_ ?_
    · refine kAutoB ?_
      (refine CJ.cond (by exact kEv) (fun hh => ?_) (fun hh => ?_))
      · replace hh : T p.tasks[j].name = true := hh
        refine kAutoB ?_
        refine RL.gives (rrow_nil 3 1) ?_
        (apply RL.callK; exact kEv; exact inferInstance; exact kEvl; rotate_left; exact (add_spec w0 b11 (j : Int) (.map (some rv)) (.map (some ra)) (.map (some rs)) none 0 0 [] none 0 0 [] 8 p.tasks[j].name (by omega) (by omega)); rotate_right; exact (by (repeat (first | exact Takes.nil _ | (apply Takes.cons; (repeat (first | exact Takes.pers Pers.rmp | exact Takes.pers Pers.rrow | exact Takes.ro | exact Takes.here _ _ | apply Takes.there)))))); exact rfl)
        rintro _ _ ⟨rfl, A', c', xs', rfl⟩
        refine kAutoB ?_
        refine XJ.meet (A', 0 + 1, c', xs') ?_ (by exact kEsub) (by exact kGives)
        simp [hh]
      · replace hh : T p.tasks[j].name = false := hh
        refine kAutoB ?_
        refine XJ.meet (none, 0, 0, []) ?_ (by exact kEsub) (by exact kGives)
        simp [hh]
    rintro ⟨A7, k7, c7, xs7⟩ hk7
    simp only at hk7
    have hk7' : k7 ≤ 1 := by rw [hk7]; split <;> omega
    refine kAutoB ?_
    (apply RL.mapUpdate (enc := Value.string) (r := rt); exact kEv; exact kEv; exact kEv; exact kTake)
    rw [setM_upd]
    refine kAutoB ?_
    have hdec := declare_spec w0 p.tasks[j] _ hr0 rfl (by omega) (by omega) b11 (j : Int) rv ra rs A7 k7 c7 xs7 ⟨noneB, noneB, sh⟩ (by omega)
    have hD : taskD sh T p.tasks[j] = declT (k7, ⟨noneB, noneB, sh⟩) p.tasks[j] := by rw [hk7]; rfl
    rw [← hD] at hdec
    have hDs : (taskD sh T p.tasks[j]).2.shared = sh := by rw [hD, declT_shared]
    have hDl := declT_le (k7, ⟨noneB, noneB, sh⟩) p.tasks[j]
    rw [← hD] at hDl
    simp only at hDl
    (apply RL.callK; exact kEv; exact inferInstance; exact kEvl; rotate_left; exact hdec; rotate_right; exact (by (repeat (first | exact Takes.nil _ | (apply Takes.cons; (repeat (first | exact Takes.pers Pers.rmp | exact Takes.pers Pers.rrow | exact Takes.ro | exact Takes.here _ _ | apply Takes.there)))))); exact rfl)
    rintro _ _ ⟨rfl, A8, c8, xs8, rfl⟩
    (repeat (first | (apply RL.pur; exact kPureB; exact rfl) | (refine RL.guardT rfl rfl ?_) | (refine RL.guardF rfl rfl rfl rfl ?_) | (refine RL.guardU rfl rfl rfl ?_) | refine RL.nil ?_))
    generalize hcd : taskD sh T p.tasks[j] = cd at *
    obtain ⟨kd, CD⟩ := cd
    simp only at hDs hDl
    refine XJ.frz (A := mp Value.string rv (setM CD.vars)) (by exact kTake) Frz.mp ?_
    refine XJ.frz (A := mp Value.string ra (setM CD.arrays)) (by exact kTake) Frz.mp ?_
    refine XJ.gives (rrow_nil 3 1) ?_
    refine XJ.gives (rrow_nil 9 1) ?_
    refine XJ.next ?_
    have hvl := visit_le CD p.tasks[j].body false ⟨CD.vars, noneB, []⟩
    have hstep : stepT sh (k2, T) p.tasks[j] = (k2 + (kd + visitN CD p.tasks[j].body false ⟨CD.vars, noneB, []⟩), insB T p.tasks[j].name) := by
      simp only [stepT, hcd]
    have hvis : ∀ q q2, Spec Tryz.prog w0 90 #[.pointer (some ⟨b11, 0, none⟩), .agg #[.int .u8 p.tasks[j].body.kind, .int .i64 p.tasks[j].body.num, .string p.tasks[j].body.name, .slice A0 p.tasks[j].body.kids.length cap0], .slice none 0 0, .bool false, .agg #[.map (some q), .map (some q2), .slice none 0 0]] _ _ := fun q q2 =>
      visit_spec w0 CD _ p.tasks[j].body _ (Nat.le_refl _) g50 (by omega) b11 (j : Int) rv ra rs A8 kd c8 xs8 ⟨CD.vars, noneB, []⟩ q q2 none 0 none 0 0 [] false (by omega) (by omega) (by simp only [List.length_nil]; omega) (by omega) (by simp)
    subst hDs
    refine CJ.seqI (σ := Nat × Option Addr × Nat × List Value) (fun s => s.1 = kd + visitN CD p.tasks[j].body false ⟨CD.vars, noneB, []⟩) (fun _ => [(11, .pointer (some ⟨b11, 0, none⟩)), (41, .int .i64 (j : Int)), (40, .int .i64 p.tasks.length), (39, .slice (some ⟨b, o, none⟩) p.tasks.length c2), (8, .map (some rt)), (3, .map (some rs)), (7, .slice Ao2 k2 co2)])
      (fun s => ckM b11 (j : Int) rv ra rs s.2.1 s.1 s.2.2.1 s.2.2.2 ++ (rmp Value.string rs (setM CD.shared) :: row 212 4 (.slice Ao2 k2 co2) k2 xs2 :: mp Value.string rt (setM (insB T p.tasks[j].name)) :: F)) ?_ ?_
    · refine CJ.draws mixed 8 [atp b11 1 (.map (some rv)), cel b10 52 _] (Gives.atp (by exact kTake) rfl (by exact kGives)) (dom_of (by kernel_rfl)) ?_
      ((first | refine kAjB 0 ?_ | refine kAjS 0 ?_); (first | refine kAjB 1 ?_ | refine kAjS 1 ?_); (first | refine kAjB 2 ?_ | refine kAjS 2 ?_))
      (apply AJ.pur (i := 3); exact rfl; exact rfl; exact rfl; exact rfl; exact rfl; exact rfl; exact rfl; exact rfl; exact rfl; (apply OpP.load; exact kEv; exact HasAt.atp (Takes.here _ _)))
      (refine AJ.loud2 (i := 4) (j := 5) (by kernel_rfl) (by kernel_rfl) rfl (by kernel_rfl) (by kernel_rfl) rfl rfl rfl rfl rfl rfl rfl rfl rfl rfl rfl rfl (OpS.callO (mclone_spec w0 rv (setM CD.vars) [rmp Value.string rv (setM CD.vars)] (fun M => HasMap.rmp (Takes.here _ _))) (by exact kEv) inferInstance (by exact kEvl) (by exact rfl) (by (repeat (first | exact Takes.nil _ | (apply Takes.cons; (repeat (first | exact Takes.pers Pers.rmp | exact Takes.pers Pers.rrow | exact Takes.ro | exact Takes.here _ _ | apply Takes.there))))))) (OpS.makeMap (enc := Value.string)) ?_ ?_ ?_ ?_)
      · rintro _ _ ⟨N, ⟨q, rfl, rfl⟩, rfl⟩
        refine ⟨Gives.atp (by exact kTake) rfl (by exact kGives), ?_⟩
        (refine AJ.loud1 (i := 5) (by kernel_rfl) (by kernel_rfl) rfl (by kernel_rfl) (by kernel_rfl) rfl rfl rfl rfl rfl rfl (OpS.makeMap (enc := Value.string)) ?_ ?_)
        · rintro _ _ ⟨q2, rfl, rfl⟩
          refine ⟨Gives.atp (by exact kTake) rfl (by exact kGives), ?_⟩
          rw [setM_none]
          (apply AJ.pur (i := 6); exact rfl; exact rfl; exact rfl; exact rfl; exact rfl; exact rfl; exact rfl; exact rfl; exact rfl; (refine OpP.build (xs := [.tmp 67, .tmp 68]) (vs := [.map (some q), .map (some q2)]) (r := .agg #[.map (some q), .map (some q2), .slice none 0 0]) (by exact kEvl) rfl (fun w => by kernel_rfl)))
          refine AJ.frz (A := mp Value.string q _) (by exact kTake) Frz.mp (Gives.atp (by exact kTake) rfl (by exact kGives)) ?_
          refine AJ.frz (A := mp Value.string q2 _) (by exact kTake) Frz.mp (Gives.atp (by exact kTake) rfl (by exact kGives)) ?_
          (refine AJ.loud1 (i := 7) (by kernel_rfl) (by kernel_rfl) rfl (by kernel_rfl) (by kernel_rfl) rfl rfl rfl rfl rfl rfl (OpS.callO (hvis q q2) (by exact kEv) inferInstance (by exact kEvl) (by exact rfl) (by (repeat (first | exact Takes.nil _ | (apply Takes.cons; (repeat (first | exact Takes.pers Pers.rmp | exact Takes.pers Pers.rrow | exact Takes.ro | exact Takes.here _ _ | apply Takes.there))))))) ?_ ?_)
          · rintro _ _ ⟨N, ⟨rfl, A9, c9, xs9, rfl⟩, rfl⟩
            refine ⟨Gives.atp (by exact kTake) rfl (by exact kGives), ?_⟩
            (refine AJ.done (by kernel_rfl) (by kernel_rfl) rfl (by kernel_rfl) ?_)
            exact XJ.meet (_, A9, c9, xs9) rfl (by exact kEsub) (by exact kGives)
          · rintro _ _ ⟨_, h, _⟩; exact h.elim
        · rintro _ _ h; exact h.elim
      · rintro _ _ ⟨_, h, _⟩; exact h.elim
      · rintro _ _ ⟨q2, rfl, rfl⟩
        refine ⟨Gives.atp (by exact kTake) rfl (by exact kGives), ?_⟩
        (refine AJ.loud1 (i := 4) (by kernel_rfl) (by kernel_rfl) rfl (by kernel_rfl) (by kernel_rfl) rfl rfl rfl rfl rfl rfl (OpS.callO (mclone_spec w0 rv (setM CD.vars) [rmp Value.string rv (setM CD.vars)] (fun M => HasMap.rmp (Takes.here _ _))) (by exact kEv) inferInstance (by exact kEvl) (by exact rfl) (by (repeat (first | exact Takes.nil _ | (apply Takes.cons; (repeat (first | exact Takes.pers Pers.rmp | exact Takes.pers Pers.rrow | exact Takes.ro | exact Takes.here _ _ | apply Takes.there))))))) ?_ ?_)
        · rintro _ _ ⟨N, ⟨q, rfl, rfl⟩, rfl⟩
          refine ⟨Gives.atp (by exact kTake) rfl (by exact kGives), ?_⟩
          rw [setM_none]
          (apply AJ.pur (i := 6); exact rfl; exact rfl; exact rfl; exact rfl; exact rfl; exact rfl; exact rfl; exact rfl; exact rfl; (refine OpP.build (xs := [.tmp 67, .tmp 68]) (vs := [.map (some q), .map (some q2)]) (r := .agg #[.map (some q), .map (some q2), .slice none 0 0]) (by exact kEvl) rfl (fun w => by kernel_rfl)))
          refine AJ.frz (A := mp Value.string q _) (by exact kTake) Frz.mp (Gives.atp (by exact kTake) rfl (by exact kGives)) ?_
          refine AJ.frz (A := mp Value.string q2 _) (by exact kTake) Frz.mp (Gives.atp (by exact kTake) rfl (by exact kGives)) ?_
          (refine AJ.loud1 (i := 7) (by kernel_rfl) (by kernel_rfl) rfl (by kernel_rfl) (by kernel_rfl) rfl rfl rfl rfl rfl rfl (OpS.callO (hvis q q2) (by exact kEv) inferInstance (by exact kEvl) (by exact rfl) (by (repeat (first | exact Takes.nil _ | (apply Takes.cons; (repeat (first | exact Takes.pers Pers.rmp | exact Takes.pers Pers.rrow | exact Takes.ro | exact Takes.here _ _ | apply Takes.there))))))) ?_ ?_)
          · rintro _ _ ⟨N, ⟨rfl, A9, c9, xs9, rfl⟩, rfl⟩
            refine ⟨Gives.atp (by exact kTake) rfl (by exact kGives), ?_⟩
            (refine AJ.done (by kernel_rfl) (by kernel_rfl) rfl (by kernel_rfl) ?_)
            exact XJ.meet (_, A9, c9, xs9) rfl (by exact kEsub) (by exact kGives)
          · rintro _ _ ⟨_, h, _⟩; exact h.elim
        · rintro _ _ ⟨_, h, _⟩; exact h.elim
      · rintro _ _ h; exact h.elim
    rintro ⟨k9, A9, c9, xs9⟩ hk9
    simp only at hk9
    refine kAutoB ?_
    refine RL.append (by exact kEv) (by exact kEv) (by exact kTake) (fun h m => row_src (w := w0) (by exact kTake) m) (by simp only [maxLen]; omega) (by omega) rfl (fun A' c' => ?_)
    refine kAutoB ?_
    rw [i64_succ j (by omega)]
    refine XJ.round (j + 1, A', k2 + k9, c', _, insB T p.tasks[j].name) ⟨by simp only; omega, ?_, ?_⟩ (by simp only; omega) (by exact kEsub) (by exact kGives)
    · rw [foldl_take _ _ _ _ hlt', ← hst2, hstep, hk9]
    · simp only; omega
theorem ok_spec (w0 : World) (hT : Tab w0) (p : Prg) (cs : List Value) (hf : Fit p) (hR : PrgR w0 p cs) :
    Spec Tryz.prog w0 19 #[.agg cs.toArray] [] (Is (.bool (okB p))) := by
  have hV := Valid_spec w0 hT p cs hf hR
  have hC := check_spec w0 hT p cs hf hR
  obtain ⟨A1, c1, A2, c2, rfl, h1, h2, h3, h4⟩ := hR.ex
  refine Spec.enter (args := [_]) Tryz.func19 rfl rfl rfl (fun F => ?_)
  refine kAutoB ?_
  (apply RL.boxR; exact kEv; exact rfl; intro b1)
  refine kAutoB ?_
  (apply RL.callIs; exact kEv; exact inferInstance; exact kEvl; exact hV; exact rfl)
  cases hv : validB p
  · refine kAutoB ?_
    refine XJ.ret1 rfl rfl [] (by exact kGives) ⟨?_, rfl⟩
    rw [okB, hv]; rfl
  · refine kAutoB ?_
    (apply RL.callK; exact kEv; exact inferInstance; exact kEvl; exact (Takes.nil _); exact hC; exact rfl)
    rintro _ N ⟨A, c, rfl⟩
    refine kAutoB ?_
    refine XJ.ret1 rfl rfl [] (Gives.skipApp (by exact kGives)) ⟨?_, rfl⟩
    rw [okB, hv]
    congr 1
    rw [Bool.eq_iff_iff]
    simp
end Go.Proofs.YtgmapenlgammfaaGreatDoor
