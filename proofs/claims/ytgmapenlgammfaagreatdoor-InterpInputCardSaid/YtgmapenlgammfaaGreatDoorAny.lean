/- Regions that draw their order, over the separation logic: operations that only compute or read are taken first, in whatever order; the others in every order that the edges allow. -/
import Derived.Test.YtgmapenlgammfaaGreatDoorOps
set_option linter.all false
namespace Go.Proofs.YtgmapenlgammfaaGreatDoor
open Go Go.RowKit
attribute [local semireducible] Takes Gives Ev XJ CJ RL Spec pt ro OpP OpS

def depsOf (o : Oper) : List Nat := (o.after.toList.filter (fun e => Region.binds .any e)).map (·.on)
/-- What may come up next where D is done. -/
def vready (ops : Array Oper) (D : List Nat) : List Nat :=
  (List.range ops.size).filter fun i => !D.contains i && ((ops[i]?).map fun o => (depsOf o).all (D.contains ·)).getD false
/-- Each slot that an operation among the first k looks at and that another of them writes is written by one that it waits for. -/
def namesOk (ops : Array Oper) (k : Nat) : Bool :=
  (List.range k).all fun i => match ops[i]? with
    | none => false
    | some o => (o.looksAt ops).all fun t => (List.range k).all fun j => match ops[j]? with
      | none => false
      | some q => q.dst != some t || (depsOf o).contains j
/-- The operations from k on wait for all below k, and each for the one before it; no operation waits for a later one. -/
def tailOk (ops : Array Oper) (k : Nat) : Bool :=
  (List.range ops.size).all fun i => match ops[i]? with
    | none => false
    | some o => (o.after.all fun e => e.on < i || !Region.binds .any e) && (decide (i < k) || ((List.range k).all ((depsOf o).contains ·) && (i == k || (depsOf o).contains (i - 1))))
def wantedL (ops : Array Oper) (L : Env) (o : Oper) : Option Bool :=
  match o.guard with
  | none => some true
  | some (j, b) => match ((ops[j]?).bind (·.dst)).bind L.get with
    | some (.bool c) => some (c == b)
    | some (.tuple _) => some false
    | _ => none
def notSel (o : Oper) : Bool := match o.op with
  | .select .. => false
  | _ => true
theorem notSel_ne {o : Oper} (h : notSel o = true) : ∀ cs b, o.op ≠ .select cs b := by
  intro cs b e
  unfold notSel at h
  rw [e] at h
  cases h

section
variable (P : Program) (w0 : World) (n : Nat) (ops : Array Oper) (Q : Exit → Act → World → Prop) (Mro : List HProp)
structure Pend (L : Env) (i : Nat) : Prop where
  run : ∃ o d v L0, ops[i]? = some o ∧ o.dst = some d ∧ L.get d = some v ∧ notSel o = true ∧ (∀ t u, L0.get t = some u → L.get t = some u) ∧ (∀ t ∈ o.looksAt ops, ∃ u, L0.get t = some u) ∧
    ((wantedL ops L0 o = some true ∧ OpP P w0 L0 Mro o v) ∨ (wantedL ops L0 o = some false ∧ v = undef))
structure Real (k : Nat) (D Z : List Nat) (L : Env) (listed : Array Bool) (a : Act) : Prop where
  lsz : listed.size = ops.size
  lst : ∀ i, i < ops.size → (listed.getD i false = true ↔ i ∈ D ∧ i ∉ Z)
  zd : ∀ i ∈ Z, i ∈ D ∧ i < k
  dk : ∀ i ∈ D, i < ops.size
  df : a.defers = []
  sz : a.tmps.size = n
  dom : ∀ t v, L.get t = some v → t < n
  ok : ∀ t v, L.get t = some v → (∀ i ∈ Z, ∀ o, ops[i]? = some o → o.dst ≠ some t) → a.tmps[t]? = some v
/-- From the state (D, L, M) the rest of the region comes to Q. k: how many operations may come in any order. -/
def AJ (k : Nat) (D : List Nat) (L : Env) (M : List HProp) : Prop :=
  Gives M Mro → ∀ (fuel : Nat) (Z : List Nat) (listed : Array Bool) (a : Act) (w : World) (h : Frag),
    Real n ops k D Z L listed a → (∀ i ∈ Z, Pend P w0 ops Mro L i) → star M h → Sat w0 w h → (List.range ops.size).countP (fun i => !listed.getD i false) ≤ fuel →
    wpAny P .any ops Q fuel listed a w
end

section
variable {P : Program} {w0 : World} {n : Nat} {ops : Array Oper} {Q : Exit → Act → World → Prop} {Mro : List HProp} {k : Nat} {D : List Nat} {L : Env} {M : List HProp}

theorem ready_spec {listed : Array Bool} {i : Nat} (hsz : listed.size = ops.size) (h : i ∈ Region.ready .any ops listed) : i < ops.size ∧ listed.getD i false = false ∧ ∃ o, ops[i]? = some o ∧ ∀ j ∈ depsOf o, listed.getD j false = true := by
  unfold Region.ready at h
  rw [List.mem_filter] at h
  obtain ⟨h1, h2⟩ := h
  have hi : i < ops.size := by simpa using h1
  rw [Bool.and_eq_true] at h2
  obtain ⟨h2, h3⟩ := h2
  refine ⟨hi, ?_, ops[i], by simp [hi], ?_⟩
  · have : listed.getD i true = false := by simpa using h2
    have hl : i < listed.size := by omega
    simp [Array.getD, hl] at this ⊢
    exact this
  · intro j hj
    have hgo : ops[i]? = some ops[i] := by simp [hi]
    rw [hgo] at h3
    simp only [Option.map_some, Option.getD_some] at h3
    unfold depsOf at hj
    rw [List.mem_map] at hj
    obtain ⟨e, he, rfl⟩ := hj
    rw [List.mem_filter] at he
    have := Array.all_eq_true'.1 h3 e (by simpa using he.1)
    rw [he.2] at this
    simpa using this
/-- An act in which also what is pending is done. -/
theorem full_act (a : Act) (L0 : Env) (hd : a.defers = []) (hs : a.tmps.size = n) (hdom : ∀ t v, L0.get t = some v → t < n) :
    ∃ a'' : Act, St n L0 a'' := by
  refine ⟨{ tmps := Array.ofFn (n := n) (fun t => ((L0.get t.val).getD (a.tmps.getD t.val undef))), defers := [] }, rfl, by simp, ?_⟩
  intro t v e
  have := hdom t v e
  simp [this, e]
theorem eval_same {a a'' : Act} {L0 : Env} (hs : St n L0 a'') {o : Oper} (hns : notSel o = true) (hl : ∀ t ∈ o.looksAt ops, ∃ u, L0.get t = some u ∧ a.tmps[t]? = some u) : execOp a.eval o = execOp a''.eval o := by
  refine execOp_congr o (notSel_ne hns) ?_
  intro x hx
  cases x with
  | tmp t =>
    have : t ∈ o.looksAt ops := by
      unfold Oper.looksAt
      exact List.mem_append_left _ (List.mem_filterMap.2 ⟨.tmp t, by simpa using hx, rfl⟩)
    obtain ⟨u, h1, h2⟩ := hl t this
    have h3 := hs.ok t u h1
    simp [Act.eval, h2, h3]
  | _ => rfl
theorem wanted_same {a : Act} {L0 : Env} {o : Oper} {b : Bool} (hl : ∀ t ∈ o.looksAt ops, ∃ u, L0.get t = some u ∧ a.tmps[t]? = some u) (hw : wantedL ops L0 o = some b) : Region.wanted o (yielded ops a.tmps) = b := by
  unfold wantedL at hw
  unfold Region.wanted
  cases hg : o.guard with
  | none => rw [hg] at hw; simpa using hw
  | some jb =>
    obtain ⟨j, b'⟩ := jb
    rw [hg] at hw
    simp only at hw ⊢
    unfold yielded
    cases hd : (ops[j]?).bind (·.dst) with
    | none => rw [hd] at hw; cases hw
    | some t =>
      rw [hd] at hw
      have : t ∈ o.looksAt ops := by
        unfold Oper.looksAt
        refine List.mem_append_right _ ?_
        simp [hg, hd]
      obtain ⟨u, h1, h2⟩ := hl t this
      simp only [Option.bind_some, h1] at hw
      simp only [Option.bind_some, h2]
      cases u <;> simp_all

/-- A pending operation comes up. -/
theorem pend_step {i : Nat} {Z : List Nat} {listed : Array Bool} {a : Act} {w : World} {h : Frag} {K : Act → World → Prop} (hn : namesOk ops k = true) (hk : k ≤ ops.size)
    (r : Real n ops k D Z L listed a) (hi : i ∈ Region.ready .any ops listed) (hz : i ∈ Z) (hp : Pend P w0 ops Mro L i) (m : star M h) (g : Gives M Mro) (s : Sat w0 w h)
    (hK : ∀ a', Real n ops k D (Z.filter (· != i)) L (listed.setIfInBounds i true) a' → K a' w) : wpOp P ops Q i K a w := by
  obtain ⟨hlt, hnl, o', ho', hdep⟩ := ready_spec r.lsz hi
  obtain ⟨o, d, v, L0, ho, hd, hv, hns, hsub, hlk, hrun⟩ := hp.run
  rw [ho] at ho'
  injection ho' with ho'
  subst ho'
  -- what it looks at is really there
  have hl : ∀ t ∈ o.looksAt ops, ∃ u, L0.get t = some u ∧ a.tmps[t]? = some u := by
    intro t ht
    obtain ⟨u, hu⟩ := hlk t ht
    refine ⟨u, hu, r.ok t u (hsub t u hu) ?_⟩
    intro j hj q hq e
    have hjk := (r.zd j hj).2
    have hik := (r.zd i hz).2
    have := List.all_eq_true.1 hn i (by simpa using hik)
    rw [ho] at this
    have := List.all_eq_true.1 this t ht
    have := List.all_eq_true.1 this j (by simpa using hjk)
    rw [hq] at this
    simp only [e, bne_self_eq_false, Bool.false_or] at this
    have hjd : j ∈ depsOf o := by simpa using this
    have := hdep j hjd
    have := (r.lst j (by omega)).1 this
    exact this.2 hj
  have hdn : d < n := r.dom d v hv
  have hnext : Real n ops k D (Z.filter (· != i)) L (listed.setIfInBounds i true) (a.put o.dst v) := by
    refine ⟨by simp [r.lsz], ?_, ?_, r.dk, by rw [hd]; exact r.df, by rw [hd]; simp [Act.put, r.sz], r.dom, ?_⟩
    · intro j hj
      by_cases hji : j = i
      · subst hji
        constructor
        · intro _; exact ⟨(r.zd j hz).1, by simp⟩
        · intro _; simp [Array.getD, hj, r.lsz]
      · have h1 : (listed.setIfInBounds i true).getD j false = listed.getD j false := by
          simp only [Array.getD_eq_getD_getElem?]
          rw [Array.getElem?_setIfInBounds_ne (Ne.symm hji)]
        rw [h1, r.lst j hj]
        simp [hji]
    · intro j hj
      rw [List.mem_filter] at hj
      exact r.zd j hj.1
    · intro t u hu hne
      rw [hd]
      simp only [Act.put]
      by_cases htd : d = t
      · subst htd
        rw [hv] at hu
        injection hu with hu
        subst hu
        simp [r.sz, hdn]
      · rw [Array.getElem?_setIfInBounds_ne htd]
        refine r.ok t u hu ?_
        intro j hj q hq
        by_cases hji : j = i
        · subst hji
          rw [ho] at hq
          injection hq with hq
          subst hq
          rw [hd]
          simpa using htd
        · exact hne j (List.mem_filter.2 ⟨hj, by simpa using hji⟩) q hq
  unfold wpOp
  rw [ho]
  simp only
  rcases hrun with ⟨hw, hrun⟩ | ⟨hw, rfl⟩
  · rw [if_pos (wanted_same hl hw)]
    refine .inl ?_
    obtain ⟨a'', hst⟩ := full_act (n := n) a L0 r.df r.sz (fun t v e => r.dom t v (hsub t v e))
    have e := hrun n a'' w h hst (g h m) s
    rw [← eval_same hst hns hl] at e
    simp only [Oper.wp, e, Oper.upon]
    exact hK _ hnext
  · rw [if_neg (by rw [wanted_same hl hw]; simp)]
    exact hK _ hnext

theorem count_less {listed : Array Bool} {i : Nat} (hlt : i < ops.size) (hsz : listed.size = ops.size) (hnl : listed.getD i false = false) {fuel : Nat} (hc : (List.range ops.size).countP (fun i => !listed.getD i false) ≤ fuel + 1) :
    (List.range ops.size).countP (fun j => !(listed.setIfInBounds i true).getD j false) ≤ fuel := by
  have hp : (List.range ops.size).Perm (i :: (List.range ops.size).erase i) := List.perm_cons_erase (by simpa using hlt)
  rw [hp.countP_eq] at hc ⊢
  rw [List.countP_cons] at hc ⊢
  have h1 : (listed.setIfInBounds i true).getD i false = true := by simp [Array.getD, hsz, hlt]
  simp only [hnl, Bool.not_false, if_true, h1, Bool.not_true, Bool.false_eq_true, if_false, Nat.add_zero] at hc ⊢
  have : ((List.range ops.size).erase i).countP (fun j => !(listed.setIfInBounds i true).getD j false) ≤ ((List.range ops.size).erase i).countP (fun i => !listed.getD i false) := by
    refine List.countP_mono_left ?_
    intro j hj h
    have hne : j ≠ i := by
      intro e; subst e
      exact (List.Nodup.not_mem_erase List.nodup_range) hj
    have h2 : (listed.setIfInBounds i true).getD j false = listed.getD j false := by
      simp only [Array.getD_eq_getD_getElem?]
      rw [Array.getElem?_setIfInBounds_ne (Ne.symm hne)]
    rw [h2] at h
    exact h
  omega
theorem all_listed {listed : Array Bool} (hc : (List.range ops.size).countP (fun i => !listed.getD i false) ≤ 0) : ∀ i, i < ops.size → listed.getD i false = true := by
  intro i hi
  have : (List.range ops.size).countP (fun i => !listed.getD i false) = 0 := by omega
  rw [List.countP_eq_zero] at this
  have := this i (by simpa using hi)
  simpa using this

/-- A pure operation is done ahead. -/
theorem AJ.step {i d : Nat} {op : Op} {T : TypeId} {p : String} {af : Array Edge} {gd : Option (Nat × Bool)} {v : Value} (ho : ops[i]? = some ⟨some d, op, T, p, af, gd⟩) (hik : Nat.blt i k = true) (hk : Nat.ble k ops.size = true) (hD : D.contains i = false) (hf : L.get d = none) (hd : Nat.blt d n = true)
    (hns : notSel ⟨some d, op, T, p, af, gd⟩ = true) (hlk : ((Oper.looksAt ops ⟨some d, op, T, p, af, gd⟩).all fun t => (L.get t).isSome) = true)
    (hrun : (wantedL ops L ⟨some d, op, T, p, af, gd⟩ = some true ∧ OpP P w0 L Mro ⟨some d, op, T, p, af, gd⟩ v) ∨ (wantedL ops L ⟨some d, op, T, p, af, gd⟩ = some false ∧ v = undef))
    (kk : AJ P w0 n ops Q Mro k (i :: D) ((d, v) :: L) M) : AJ P w0 n ops Q Mro k D L M := by
  have hik' : i < k := by simpa [Nat.blt_eq] using hik
  have hk' : k ≤ ops.size := by simpa [Nat.ble_eq] using hk
  have hd' : d < n := by simpa [Nat.blt_eq] using hd
  have hD' : i ∉ D := by simpa using hD
  intro g fuel Z listed a w h r hp m s hc
  have hsub : ∀ t u, L.get t = some u → Env.get ((d, v) :: L) t = some u := by
    intro t u hu
    simp only [Env.get]
    cases hb : Nat.beq d t with
    | true => have := Nat.eq_of_beq_eq_true hb; subst this; rw [hf] at hu; cases hu
    | false => simpa using hu
  refine kk g fuel (i :: Z) listed a w h ?_ ?_ m s hc
  · refine ⟨r.lsz, ?_, ?_, ?_, r.df, r.sz, ?_, ?_⟩
    · intro j hj
      rw [r.lst j hj]
      by_cases hji : j = i
      · subst hji; simp [hD']
      · simp [hji]
    · intro j hj
      rcases List.mem_cons.1 hj with rfl | hj
      · exact ⟨by simp, hik'⟩
      · exact ⟨List.mem_cons_of_mem _ (r.zd j hj).1, (r.zd j hj).2⟩
    · intro j hj
      rcases List.mem_cons.1 hj with rfl | hj
      · omega
      · exact r.dk j hj
    · intro t u hu
      simp only [Env.get] at hu
      cases hb : Nat.beq d t with
      | true => have := Nat.eq_of_beq_eq_true hb; omega
      | false => rw [hb] at hu; exact r.dom t u (by simpa using hu)
    · intro t u hu hne
      have htd : d ≠ t := by
        intro e
        exact hne i (by simp) _ ho (by simp [e])
      simp only [Env.get] at hu
      have hb : Nat.beq d t = false := by
        cases hb : Nat.beq d t with
        | true => exact absurd (Nat.eq_of_beq_eq_true hb) htd
        | false => rfl
      rw [hb] at hu
      exact r.ok t u (by simpa using hu) (fun j hj => hne j (List.mem_cons_of_mem _ hj))
  · intro j hj
    rcases List.mem_cons.1 hj with rfl | hj
    · refine ⟨_, d, v, L, ho, rfl, Look.here, hns, hsub, ?_, hrun⟩
      intro t ht
      have := List.all_eq_true.1 hlk t ht
      exact Option.isSome_iff_exists.1 this
    · obtain ⟨o, d', v', L0, h1, h2, h3, h4, h5, h6, h7⟩ := (hp j hj).run
      exact ⟨o, d', v', L0, h1, h2, hsub _ _ h3, h4, fun t u e => hsub t u (h5 t u e), h6, h7⟩

def ordOk (ops : Array Oper) : Bool := (List.range ops.size).all fun i => match ops[i]? with
  | none => false
  | some o => (depsOf o).all (decide <| · < i)
theorem ready_all {listed : Array Bool} (ho : ordOk ops = true) (hsz : listed.size = ops.size) (he : Region.ready .any ops listed = []) : ∀ i, i < ops.size → listed.getD i false = true := by
  intro i
  induction i using Nat.strongRecOn with
  | _ i ih =>
    intro hi
    cases hl : listed.getD i false with
    | true => rfl
    | false =>
      exfalso
      have hmem : i ∈ Region.ready .any ops listed := by
        unfold Region.ready
        rw [List.mem_filter]
        refine ⟨by simpa using hi, ?_⟩
        have hgo : ops[i]? = some ops[i] := by simp [hi]
        have h1 := List.all_eq_true.1 ho i (by simpa using hi)
        rw [hgo] at h1 ⊢
        simp only at h1
        rw [Bool.and_eq_true]
        constructor
        · have : i < listed.size := by omega
          simp [Array.getD, this] at hl ⊢
          exact hl
        · simp only [Option.map_some, Option.getD_some]
          rw [Array.all_eq_true']
          intro e he'
          cases hb : Region.binds .any e with
          | false => simp
          | true =>
            have hd : e.on ∈ depsOf ops[i] := by
              unfold depsOf
              rw [List.mem_map]
              exact ⟨e, List.mem_filter.2 ⟨by simpa using he', hb⟩, rfl⟩
            have h2 := List.all_eq_true.1 h1 e.on hd
            have h3 : e.on < i := by simpa using h2
            simp [ih e.on h3 (by omega)]
      rw [he] at hmem
      cases hmem

/-- All is done. -/
theorem AJ.done (hor : ordOk ops = true) (hn : namesOk ops k = true) (hk : Nat.ble k ops.size = true) (hall : ((List.range ops.size).all (D.contains ·)) = true) (kk : XJ w0 n .normal Q L M) : AJ P w0 n ops Q Mro k D L M := by
  have hk' : k ≤ ops.size := by simpa [Nat.ble_eq] using hk
  intro g fuel
  induction fuel with
  | zero =>
    intro Z listed a w h r hp m s hc
    have hl := all_listed hc
    have hz : Z = [] := by
      cases Z with
      | nil => rfl
      | cons i Z =>
        have h1 := r.zd i (by simp)
        have := (r.lst i (r.dk i h1.1)).1 (hl i (r.dk i h1.1))
        exact absurd (by simp) this.2
    subst hz
    refine ⟨?_, kk a w h ⟨r.df, r.sz, fun t v e => r.ok t v e (by simp)⟩ m s⟩
    refine List.eq_nil_iff_forall_not_mem.2 fun i hi => ?_
    obtain ⟨h1, h2, _⟩ := ready_spec r.lsz hi
    rw [hl i h1] at h2
    cases h2
  | succ fuel ih =>
    intro Z listed a w h r hp m s hc
    refine ⟨fun he => ?_, fun i hi => ?_⟩
    · have hl := ready_all hor r.lsz he
      have hz : Z = [] := by
        cases Z with
        | nil => rfl
        | cons i Z =>
          have h1 := r.zd i (by simp)
          have := (r.lst i (r.dk i h1.1)).1 (hl i (r.dk i h1.1))
          exact absurd (by simp) this.2
      subst hz
      exact kk a w h ⟨r.df, r.sz, fun t v e => r.ok t v e (by simp)⟩ m s
    · obtain ⟨hlt, hnl, o, ho, hdep⟩ := ready_spec r.lsz hi
      have hiD : i ∈ D := by simpa using List.all_eq_true.1 hall i (by simpa using hlt)
      have hz : i ∈ Z := by
        by_cases hz : i ∈ Z
        · exact hz
        · have := (r.lst i hlt).2 ⟨hiD, hz⟩
          rw [hnl] at this; cases this
      refine pend_step (L := L) (D := D) (Z := Z) (M := M) hn hk' r hi hz (hp i hz) m g s ?_
      intro a' r'
      exact ih _ _ a' w h r' (fun j hj => hp j (List.mem_filter.1 hj).1) m s (count_less hlt r.lsz hnl hc)
def addE (d : Option Nat) (v : Value) (L : Env) : Env := match d with
  | some d => (d, v) :: L
  | none => L
theorem addE_sub {d : Option Nat} {v : Value} {L : Env} (h : ∀ e, d = some e → L.get e = none) : ∀ t u, L.get t = some u → (addE d v L).get t = some u := by
  intro t u hu
  cases d with
  | none => exact hu
  | some d =>
    simp only [addE, Env.get]
    cases hb : Nat.beq d t with
    | true => have := Nat.eq_of_beq_eq_true hb; subst this; rw [h d rfl] at hu; cases hu
    | false => simpa using hu
/-- What is done at a loud operation i, the next one. -/
def Loud (P : Program) (w0 : World) (n : Nat) (ops : Array Oper) (Q : Exit → Act → World → Prop) (Mro : List HProp) (k : Nat) (D : List Nat) (L : Env) (M : List HProp) (i : Nat) : Prop :=
  ∃ (o : Oper) (K : Value → List HProp → Prop) (KP : List PanicEntry → List HProp → Prop), ops[i]? = some o ∧ wantedL ops L o = some true ∧ (∀ d, o.dst = some d → d < n) ∧ (∀ d, o.dst = some d → L.get d = none) ∧ notSel o = true ∧ (∀ t ∈ o.looksAt ops, ∃ u, L.get t = some u) ∧ i < k ∧
    OpS P w0 L M o K KP ∧ (∀ v M', K v M' → Gives M' Mro ∧ AJ P w0 n ops Q Mro k (i :: D) (addE o.dst v L) M') ∧ (∀ c M', KP c M' → XJ w0 n (.panic c) Q [] M')

theorem AJ.louds (hor : ordOk ops = true) (hn : namesOk ops k = true) (hk : Nat.ble k ops.size = true) (hne : ((List.range ops.size).all (D.contains ·)) = false) (hl : ∀ i ∈ vready ops D, Loud P w0 n ops Q Mro k D L M i) : AJ P w0 n ops Q Mro k D L M := by
  have hk' : k ≤ ops.size := by simpa [Nat.ble_eq] using hk
  intro g fuel
  have notall : ∀ (Z : List Nat) (listed : Array Bool) (a : Act), Real n ops k D Z L listed a → ¬ (∀ i, i < ops.size → listed.getD i false = true) := by
    intro Z listed a r hl
    have : ((List.range ops.size).all (D.contains ·)) = true := by
      rw [List.all_eq_true]
      intro i hi
      have hi' : i < ops.size := by simpa using hi
      have := (r.lst i hi').1 (hl i hi')
      simpa using this.1
    rw [this] at hne
    cases hne
  induction fuel with
  | zero =>
    intro Z listed a w h r hp m s hc
    exact absurd (all_listed hc) (notall Z listed a r)
  | succ fuel ih =>
    intro Z listed a w h r hp m s hc
    refine ⟨fun he => absurd (ready_all hor r.lsz he) (notall Z listed a r), fun i hi => ?_⟩
    obtain ⟨hlt, hnl, o, ho, hdep⟩ := ready_spec r.lsz hi
    by_cases hz : i ∈ Z
    · refine pend_step (L := L) (D := D) (Z := Z) (M := M) hn hk' r hi hz (hp i hz) m g s ?_
      intro a' r'
      exact ih _ _ a' w h r' (fun j hj => hp j (List.mem_filter.1 hj).1) m s (count_less hlt r.lsz hnl hc)
    · have hiD : i ∉ D := fun hD => by
        have := (r.lst i hlt).2 ⟨hD, hz⟩
        rw [hnl] at this; cases this
      have hdepD : ∀ j ∈ depsOf o, j < ops.size → j ∈ D ∧ j ∉ Z := fun j hj hjs => (r.lst j hjs).1 (hdep j hj)
      have hord : ∀ j ∈ depsOf o, j < ops.size := by
        intro j hj
        have h1 := List.all_eq_true.1 hor i (by simpa using hlt)
        rw [ho] at h1
        have := List.all_eq_true.1 h1 j hj
        have : j < i := by simpa using this
        omega
      have hv : i ∈ vready ops D := by
        unfold vready
        rw [List.mem_filter]
        refine ⟨by simpa using hlt, ?_⟩
        rw [ho]
        simp only [Option.map_some, Option.getD_some, Bool.and_eq_true, List.all_eq_true]
        refine ⟨by simpa using hiD, fun j hj => ?_⟩
        simpa using (hdepD j hj (hord j hj)).1
      obtain ⟨o', K, KP, ho', hgd, hdn, hf, hns, hlk, hik, hop, hkk, hkp⟩ := hl i hv
      rw [ho] at ho'
      injection ho' with ho'
      subst ho'
      have hlr : ∀ t ∈ o.looksAt ops, ∃ u, L.get t = some u ∧ a.tmps[t]? = some u := by
        intro t ht
        obtain ⟨u, hu⟩ := hlk t ht
        refine ⟨u, hu, r.ok t u hu ?_⟩
        intro j hj q hq e
        have hjk := (r.zd j hj).2
        have := List.all_eq_true.1 hn i (by simpa using hik)
        rw [ho] at this
        have := List.all_eq_true.1 this t ht
        have := List.all_eq_true.1 this j (by simpa using hjk)
        rw [hq] at this
        simp only [e, bne_self_eq_false, Bool.false_or] at this
        have hjd : j ∈ depsOf o := by simpa using this
        exact (hdepD j hjd (hord j hjd)).2 hj
      obtain ⟨a'', hst⟩ := full_act (n := n) a L r.df r.sz r.dom
      have e := hop n a'' w h hst m s
      rw [← eval_same hst hns hlr] at e
      unfold wpOp
      rw [ho]
      simp only
      rw [if_pos (wanted_same hlr hgd)]
      refine .inl ?_
      unfold Oper.wp
      refine upon_of e ?_ ?_
      · intro v M' h' w' kk mm ss
        obtain ⟨g', haj⟩ := hkk v M' kk
        refine haj g' fuel Z (listed.setIfInBounds i true) (a.put o.dst v) w' h' ?_ ?_ mm ss (count_less hlt r.lsz hnl hc)
        · refine ⟨by simp [r.lsz], ?_, fun j hj => ⟨List.mem_cons_of_mem _ (r.zd j hj).1, (r.zd j hj).2⟩, ?_, by cases o.dst <;> exact r.df, by cases o.dst <;> simp [Act.put, r.sz], ?_, ?_⟩
          · intro j hj
            by_cases hji : j = i
            · subst hji
              constructor
              · intro _; exact ⟨by simp, hz⟩
              · intro _; simp [Array.getD, hj, r.lsz]
            · have h1 : (listed.setIfInBounds i true).getD j false = listed.getD j false := by
                simp only [Array.getD_eq_getD_getElem?]
                rw [Array.getElem?_setIfInBounds_ne (Ne.symm hji)]
              rw [h1, r.lst j hj]
              simp [hji]
          · intro j hj
            rcases List.mem_cons.1 hj with rfl | hj
            · exact hlt
            · exact r.dk j hj
          · intro t u hu
            cases hd : o.dst with
            | none => rw [hd] at hu; exact r.dom t u hu
            | some d =>
              rw [hd] at hu
              simp only [addE, Env.get] at hu
              cases hb : Nat.beq d t with
              | true => have h1 := Nat.eq_of_beq_eq_true hb; have h2 := hdn d hd; rw [← h1]; exact h2
              | false => rw [hb] at hu; exact r.dom t u (by simpa using hu)
          · intro t u hu hne'
            cases hd : o.dst with
            | none => rw [hd] at hu; exact r.ok t u hu hne'
            | some d =>
              rw [hd] at hu
              simp only [Act.put]
              simp only [addE, Env.get] at hu
              cases hb : Nat.beq d t with
              | true =>
                have := Nat.eq_of_beq_eq_true hb
                subst this
                rw [hb] at hu
                simp at hu
                subst hu
                simp [r.sz, hdn d hd]
              | false =>
                rw [hb] at hu
                have htd := Nat.ne_of_beq_eq_false hb
                rw [Array.getElem?_setIfInBounds_ne htd]
                exact r.ok t u (by simpa using hu) hne'
        · intro j hj
          obtain ⟨oj, dj, vj, L0, h1, h2, h3, h4, h5, h6, h7⟩ := (hp j hj).run
          have hsub := addE_sub (v := v) hf
          exact ⟨oj, dj, vj, L0, h1, h2, hsub _ _ h3, h4, fun t u e => hsub t u (h5 t u e), h6, h7⟩
      · intro c M' h' w' kk mm ss
        exact hkp c M' kk a w' h' ⟨r.df, r.sz, fun t v e => by cases e⟩ mm ss

/-- One operation alone may come up. -/
theorem AJ.loud1 {i d : Nat} {op : Op} {T : TypeId} {p : String} {af : Array Edge} {K : Value → List HProp → Prop} {KP : List PanicEntry → List HProp → Prop} (hor : ordOk ops = true) (hn : namesOk ops k = true) (hk : Nat.ble k ops.size = true) (hne : ((List.range ops.size).all (D.contains ·)) = false)
    (hv : vready ops D = [i]) (ho : ops[i]? = some ⟨some d, op, T, p, af, none⟩) (hik : Nat.blt i k = true) (hd : Nat.blt d n = true) (hf : L.get d = none) (hns : notSel ⟨some d, op, T, p, af, none⟩ = true) (hlk : ((Oper.looksAt ops ⟨some d, op, T, p, af, none⟩).all fun t => (L.get t).isSome) = true)
    (hop : OpS P w0 L M ⟨some d, op, T, p, af, none⟩ K KP) (hkk : ∀ v M', K v M' → Gives M' Mro ∧ AJ P w0 n ops Q Mro k (i :: D) ((d, v) :: L) M') (hkp : ∀ c M', KP c M' → XJ w0 n (.panic c) Q [] M') : AJ P w0 n ops Q Mro k D L M := by
  refine AJ.louds hor hn hk hne fun j hj => ?_
  rw [hv] at hj
  obtain rfl : j = i := by simpa using hj
  refine ⟨_, K, KP, ho, rfl, fun e he => (by injection he with he; subst he; simpa [Nat.blt_eq] using hd), fun e he => (by injection he with he; subst he; exact hf), hns, ?_, by simpa [Nat.blt_eq] using hik, hop, hkk, hkp⟩
  intro t ht
  exact Option.isSome_iff_exists.1 (List.all_eq_true.1 hlk t ht)

/-- The same behind a guard. -/
theorem AJ.loudG {i d : Nat} {op : Op} {T : TypeId} {p : String} {af : Array Edge} {gd : Option (Nat × Bool)} {K : Value → List HProp → Prop} {KP : List PanicEntry → List HProp → Prop} (hor : ordOk ops = true) (hn : namesOk ops k = true) (hk : Nat.ble k ops.size = true) (hne : ((List.range ops.size).all (D.contains ·)) = false)
    (hv : vready ops D = [i]) (ho : ops[i]? = some ⟨some d, op, T, p, af, gd⟩) (hw : wantedL ops L ⟨some d, op, T, p, af, gd⟩ = some true) (hik : Nat.blt i k = true) (hd : Nat.blt d n = true) (hf : L.get d = none) (hns : notSel ⟨some d, op, T, p, af, gd⟩ = true) (hlk : ((Oper.looksAt ops ⟨some d, op, T, p, af, gd⟩).all fun t => (L.get t).isSome) = true)
    (hop : OpS P w0 L M ⟨some d, op, T, p, af, gd⟩ K KP) (hkk : ∀ v M', K v M' → Gives M' Mro ∧ AJ P w0 n ops Q Mro k (i :: D) ((d, v) :: L) M') (hkp : ∀ c M', KP c M' → XJ w0 n (.panic c) Q [] M') : AJ P w0 n ops Q Mro k D L M := by
  refine AJ.louds hor hn hk hne fun j hj => ?_
  rw [hv] at hj
  obtain rfl : j = i := by simpa using hj
  refine ⟨_, K, KP, ho, hw, fun e he => (by injection he with he; subst he; simpa [Nat.blt_eq] using hd), fun e he => (by injection he with he; subst he; exact hf), hns, ?_, by simpa [Nat.blt_eq] using hik, hop, hkk, hkp⟩
  intro t ht
  exact Option.isSome_iff_exists.1 (List.all_eq_true.1 hlk t ht)

/-- The same for one that gives nothing. -/
theorem AJ.loud0 {i : Nat} {op : Op} {T : TypeId} {p : String} {af : Array Edge} {K : Value → List HProp → Prop} {KP : List PanicEntry → List HProp → Prop} (hor : ordOk ops = true) (hn : namesOk ops k = true) (hk : Nat.ble k ops.size = true) (hne : ((List.range ops.size).all (D.contains ·)) = false)
    (hv : vready ops D = [i]) (ho : ops[i]? = some ⟨none, op, T, p, af, none⟩) (hik : Nat.blt i k = true) (hns : notSel ⟨none, op, T, p, af, none⟩ = true) (hlk : ((Oper.looksAt ops ⟨none, op, T, p, af, none⟩).all fun t => (L.get t).isSome) = true)
    (hop : OpS P w0 L M ⟨none, op, T, p, af, none⟩ K KP) (hkk : ∀ v M', K v M' → Gives M' Mro ∧ AJ P w0 n ops Q Mro k (i :: D) L M') (hkp : ∀ c M', KP c M' → XJ w0 n (.panic c) Q [] M') : AJ P w0 n ops Q Mro k D L M := by
  refine AJ.louds hor hn hk hne fun j hj => ?_
  rw [hv] at hj
  obtain rfl : j = i := by simpa using hj
  refine ⟨_, K, KP, ho, rfl, (fun e he => by cases he), (fun e he => by cases he), hns, ?_, by simpa [Nat.blt_eq] using hik, hop, hkk, hkp⟩
  intro t ht
  exact Option.isSome_iff_exists.1 (List.all_eq_true.1 hlk t ht)
/-- Two may come up, in either order. -/
theorem AJ.loud2 {i j d e : Nat} {op op' : Op} {T T' : TypeId} {p p' : String} {af af' : Array Edge} {K K' : Value → List HProp → Prop} {KP KP' : List PanicEntry → List HProp → Prop} (hor : ordOk ops = true) (hn : namesOk ops k = true) (hk : Nat.ble k ops.size = true) (hne : ((List.range ops.size).all (D.contains ·)) = false)
    (hv : vready ops D = [i, j]) (ho : ops[i]? = some ⟨some d, op, T, p, af, none⟩) (ho' : ops[j]? = some ⟨some e, op', T', p', af', none⟩) (hik : Nat.blt i k = true) (hjk : Nat.blt j k = true) (hd : Nat.blt d n = true) (he : Nat.blt e n = true) (hf : L.get d = none) (hf' : L.get e = none)
    (hns : notSel ⟨some d, op, T, p, af, none⟩ = true) (hns' : notSel ⟨some e, op', T', p', af', none⟩ = true) (hlk : ((Oper.looksAt ops ⟨some d, op, T, p, af, none⟩).all fun t => (L.get t).isSome) = true) (hlk' : ((Oper.looksAt ops ⟨some e, op', T', p', af', none⟩).all fun t => (L.get t).isSome) = true)
    (hop : OpS P w0 L M ⟨some d, op, T, p, af, none⟩ K KP) (hop' : OpS P w0 L M ⟨some e, op', T', p', af', none⟩ K' KP')
    (hkk : ∀ v M', K v M' → Gives M' Mro ∧ AJ P w0 n ops Q Mro k (i :: D) ((d, v) :: L) M') (hkp : ∀ c M', KP c M' → XJ w0 n (.panic c) Q [] M')
    (hkk' : ∀ v M', K' v M' → Gives M' Mro ∧ AJ P w0 n ops Q Mro k (j :: D) ((e, v) :: L) M') (hkp' : ∀ c M', KP' c M' → XJ w0 n (.panic c) Q [] M') : AJ P w0 n ops Q Mro k D L M := by
  refine AJ.louds hor hn hk hne fun q hq => ?_
  rw [hv] at hq
  have hq' : q = i ∨ q = j := by simpa using hq
  rcases hq' with rfl | rfl
  · refine ⟨_, K, KP, ho, rfl, fun e he => (by injection he with he; subst he; simpa [Nat.blt_eq] using hd), fun e he => (by injection he with he; subst he; exact hf), hns, ?_, by simpa [Nat.blt_eq] using hik, hop, hkk, hkp⟩
    intro t ht
    exact Option.isSome_iff_exists.1 (List.all_eq_true.1 hlk t ht)
  · refine ⟨_, K', KP', ho', rfl, fun e' h => (by injection h with h; subst h; simpa [Nat.blt_eq] using he), fun e' h => (by injection h with h; subst h; exact hf'), hns', ?_, by simpa [Nat.blt_eq] using hjk, hop', hkk', hkp'⟩
    intro t ht
    exact Option.isSome_iff_exists.1 (List.all_eq_true.1 hlk' t ht)

/-- The operations from k on come in the text's order, behind all others. -/
theorem tail_any (ht : tailOk ops k = true) : ∀ (q m : Nat) (listed : Array Bool) (a : Act) (w : World), m + q = ops.size → k ≤ m → listed.size = ops.size → (∀ i, i < ops.size → (listed.getD i false = true ↔ i < m)) →
    wpList P ops Q (ops.toList.drop m) a w → ∀ fuel, q ≤ fuel → wpAny P .any ops Q fuel listed a w := by
  intro q
  induction q with
  | zero =>
    intro m listed a w hm hkm hsz hl hw fuel _
    have hdrop : ops.toList.drop m = [] := List.drop_eq_nil_of_le (by simp; omega)
    rw [hdrop] at hw
    have hr : Region.ready .any ops listed = [] := by
      refine List.eq_nil_iff_forall_not_mem.2 fun i hi => ?_
      obtain ⟨h1, h2, _⟩ := ready_spec hsz hi
      rw [(hl i h1).2 (by omega)] at h2
      cases h2
    cases fuel with
    | zero => exact ⟨hr, hw⟩
    | succ fuel => exact ⟨fun _ => hw, fun i hi => by rw [hr] at hi; cases hi⟩
  | succ q ih =>
    intro m listed a w hm hkm hsz hl hw fuel hf
    obtain ⟨fuel, rfl⟩ : ∃ f, fuel = f + 1 := ⟨fuel - 1, by omega⟩
    have hmlt : m < ops.size := by omega
    have hunl : listed.getD m false = false := by
      cases h : listed.getD m false with
      | false => rfl
      | true => have := (hl m hmlt).1 h; omega
    have only : ∀ i ∈ Region.ready .any ops listed, i = m := by
      intro i hi
      obtain ⟨h1, h2, o, ho, hdep⟩ := ready_spec hsz hi
      have hge : ¬ i < m := fun x => by rw [(hl i h1).2 x] at h2; cases h2
      by_cases him : i = m
      · exact him
      · exfalso
        have h3 := List.all_eq_true.1 ht i (by simpa using h1)
        rw [ho] at h3
        simp only [Bool.and_eq_true, Bool.or_eq_true, decide_eq_true_eq] at h3
        have h4 : (depsOf o).contains (i - 1) = true := by
          rcases h3.2 with h5 | ⟨_, h5 | h5⟩
          · omega
          · have : i = k := by simpa using h5
            omega
          · exact h5
        have := hdep (i - 1) (by simpa using h4)
        have := (hl (i - 1) (by omega)).1 this
        omega
    refine ⟨fun he => ?_, fun i hi => ?_⟩
    · exfalso
      have hmem : m ∈ Region.ready .any ops listed := by
        unfold Region.ready
        rw [List.mem_filter]
        refine ⟨by simpa using hmlt, ?_⟩
        have hgo : ops[m]? = some ops[m] := by simp [hmlt]
        have h1 := List.all_eq_true.1 ht m (by simpa using hmlt)
        rw [hgo] at h1 ⊢
        simp only at h1
        rw [Bool.and_eq_true] at h1
        rw [Bool.and_eq_true]
        constructor
        · have : m < listed.size := by omega
          simp [Array.getD, this] at hunl ⊢
          exact hunl
        · simp only [Option.map_some, Option.getD_some]
          rw [Array.all_eq_true']
          intro e he'
          have h2 := Array.all_eq_true'.1 h1.1 e he'
          cases hb : Region.binds .any e with
          | false => simp
          | true =>
            have h3 : e.on < m := by simpa [hb] using h2
            simp [(hl e.on (by omega)).2 h3]
      rw [he] at hmem
      cases hmem
    · obtain rfl := only i hi
      have hdrop : ops.toList.drop i = ops[i] :: ops.toList.drop (i + 1) := by
        rw [List.drop_eq_getElem_cons (by simpa using hmlt)]
        simp
      rw [hdrop] at hw
      have hgo : ops[i]? = some ops[i] := by simp [hmlt]
      have next : ∀ a w, wpList P ops Q (ops.toList.drop (i + 1)) a w → wpAny P .any ops Q fuel (listed.setIfInBounds i true) a w := by
        intro a w hw'
        refine ih (i + 1) _ a w (by omega) (by omega) (by simp [hsz]) ?_ hw' fuel (by omega)
        intro j hj
        by_cases hji : j = i
        · subst hji
          constructor
          · intro _; omega
          · intro _; simp [Array.getD, hj, hsz]
        · have h1 : (listed.setIfInBounds i true).getD j false = listed.getD j false := by
            simp only [Array.getD_eq_getD_getElem?]
            rw [Array.getElem?_setIfInBounds_ne (Ne.symm hji)]
          rw [h1, hl j hj]
          omega
      unfold wpList at hw
      unfold wpOp
      rw [hgo]
      simp only
      split
      · rename_i hwd
        rw [if_pos hwd] at hw
        exact hw.imp (Oper.wp_mono next) id
      · rename_i hwd
        rw [if_neg hwd] at hw
        exact next _ _ hw

theorem AJ.tail (hor : ordOk ops = true) (hn : namesOk ops k = true) (hk : Nat.ble k ops.size = true) (ht : tailOk ops k = true) (hD : ((List.range k).all (D.contains ·)) = true) (hD' : (D.all (Nat.blt · k)) = true) (kk : RL P w0 n ops Q (ops.toList.drop k) L M) : AJ P w0 n ops Q Mro k D L M := by
  have hk' : k ≤ ops.size := by simpa [Nat.ble_eq] using hk
  intro g fuel
  have hDk : ∀ i, i ∈ D ↔ i < k := by
    intro i
    constructor
    · intro h; simpa [Nat.blt_eq] using List.all_eq_true.1 hD' i h
    · intro h; simpa using List.all_eq_true.1 hD i (by simpa using h)
  have go : ∀ (Z : List Nat) (listed : Array Bool) (a : Act) (w : World) (h : Frag) (fuel : Nat), Z = [] → Real n ops k D Z L listed a → star M h → Sat w0 w h → ops.size - k ≤ fuel → wpAny P .any ops Q fuel listed a w := by
    intro Z listed a w h fuel hz r m s hf
    subst hz
    refine tail_any ht (ops.size - k) k listed a w (by omega) (Nat.le_refl _) r.lsz ?_ (kk a w h ⟨r.df, r.sz, fun t v e => r.ok t v e (by simp)⟩ m s) fuel hf
    intro i hi
    rw [r.lst i hi, hDk]
    simp
  have cnt : ∀ (Z : List Nat) (listed : Array Bool) (a : Act) (fuel : Nat), Real n ops k D Z L listed a → (List.range ops.size).countP (fun i => !listed.getD i false) ≤ fuel → ops.size - k ≤ fuel := by
    intro Z listed a fuel r hc
    refine Nat.le_trans ?_ hc
    have h1 : (List.range' k (ops.size - k)).countP (fun i => !listed.getD i false) = ops.size - k := by
      rw [List.countP_eq_length.2 (fun i hi => ?_)]
      · simp
      · rw [List.mem_range'_1] at hi
        cases hl : listed.getD i false with
        | false => rfl
        | true =>
          have := (r.lst i (by omega)).1 hl
          have := (hDk i).1 this.1
          omega
    have h2 : List.range ops.size = List.range k ++ List.range' k (ops.size - k) := by
      have e := @List.range'_append_1 0 k (ops.size - k)
      rw [Nat.zero_add] at e
      rw [List.range_eq_range', List.range_eq_range', e]
      congr 1
      omega
    rw [h2, List.countP_append, h1]
    omega
  induction fuel with
  | zero =>
    intro Z listed a w h r hp m s hc
    have hl := all_listed hc
    have hz : Z = [] := by
      cases Z with
      | nil => rfl
      | cons i Z =>
        have h1 := r.zd i (by simp)
        have := (r.lst i (r.dk i h1.1)).1 (hl i (r.dk i h1.1))
        exact absurd (by simp) this.2
    exact go Z listed a w h 0 hz r m s (cnt Z listed a 0 r hc)
  | succ fuel ih =>
    intro Z listed a w h r hp m s hc
    by_cases hz : Z = []
    · exact go Z listed a w h (fuel + 1) hz r m s (cnt Z listed a _ r hc)
    · refine ⟨fun he => ?_, fun i hi => ?_⟩
      · exfalso
        have hl := ready_all hor r.lsz he
        obtain ⟨i, hi⟩ := List.exists_mem_of_ne_nil Z hz
        have h1 := r.zd i hi
        have := (r.lst i (r.dk i h1.1)).1 (hl i (r.dk i h1.1))
        exact this.2 hi
      · obtain ⟨hlt, hnl, o, ho, hdep⟩ := ready_spec r.lsz hi
        by_cases hiz : i ∈ Z
        · refine pend_step (L := L) (D := D) (Z := Z) (M := M) hn hk' r hi hiz (hp i hiz) m g s ?_
          intro a' r'
          exact ih _ _ a' w h r' (fun j hj => hp j (List.mem_filter.1 hj).1) m s (count_less hlt r.lsz hnl hc)
        · exfalso
          have hik : ¬ i < k := fun x => by
            have := (r.lst i hlt).2 ⟨(hDk i).2 x, hiz⟩
            rw [hnl] at this; cases this
          have h3 := List.all_eq_true.1 ht i (by simpa using hlt)
          rw [ho] at h3
          simp only [Bool.and_eq_true, Bool.or_eq_true, decide_eq_true_eq] at h3
          obtain ⟨j, hj⟩ := List.exists_mem_of_ne_nil Z hz
          have hjk := (r.zd j hj).2
          rcases h3.2 with h5 | ⟨h5, _⟩
          · exact hik h5
          · have := List.all_eq_true.1 h5 j (by simpa using hjk)
            have := hdep j (by simpa using this)
            have := (r.lst j (by omega)).1 this
            exact this.2 hj

/-- A region that draws its order: k of its operations in any order, the rest behind them. -/
theorem CJ.draws {i : Nat} {l : List Oper} (hm : P.follows .mixedOrders = true) (k : Nat) (Mro : List HProp) (hg : Gives M Mro) (hdom : ∀ t v, L.get t = some v → t < n) (kk : AJ P w0 n l.toArray Q Mro k [] L M) : CJ P w0 n (.region i l.toArray true) Q L M := by
  intro a w h s m sa
  refine wp_region_any hm ?_
  refine kk hg _ [] _ a _ h ?_ (fun _ hi => by cases hi) m (sa.drawn _) ?_
  · refine ⟨by simp, ?_, by simp, by simp, s.df, s.sz, hdom, fun t v e _ => s.ok t v e⟩
    intro i hi
    simp [Array.getD]
  · refine Nat.le_trans List.countP_le_length ?_
    simp
end
end Go.Proofs.YtgmapenlgammfaaGreatDoor
