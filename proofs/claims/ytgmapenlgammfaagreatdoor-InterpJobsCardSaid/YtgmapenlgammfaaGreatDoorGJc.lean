import Derived.Test.YtgmapenlgammfaaGreatDoorGJb
import Derived.Test.YtgmapenlgammfaaGreatDoorGK
set_option linter.all false
/- The reference's For statement: its parts. -/
namespace Go.Proofs.YtgmapenlgammfaaGreatDoor
open Go
section
variable {P : Program} {w0 : World} {L : Env} {M : List HProp} {d : Option Tmp} {T : TypeId} {p : String} {af : Array Edge} {g : Option (Nat × Bool)}
attribute [local semireducible] OpP Ev in
theorem OpP.cutTo {t : TypeId} {x y : Operand} {E sz : Nat} [q : SliceT P t E sz] {A : Option Addr} {l c k : Nat} (hx : Ev L x (.slice A l c)) (hy : Ev L y (.int .i64 (k : Int))) (hc : k ≤ c) : OpP P w0 L M ⟨d, .slice t x none (some y) none, T, p, af, g⟩ (.slice A k c) := fun n a w h s _ _ => by
  have h0 : ∀ ad : Addr, ad.add 0 = ad := fun ad => by unfold Addr.add; split <;> simp_all
  have h1 : (k : Int) ≤ (c : Int) := by omega
  simp [execOp, hx n a s, hy n a s, Instr.sliceAt, Instr.slice, Instr.sliceBounds, Instr.sliceBound, run_und q.und, asIntOf, h1, q.sz, h0]
  omega
attribute [local semireducible] row Gives in
theorem row_cut {E sz n m c : Nat} {A : Option Addr} {xs ys : List Value} (hl : xs.length = n * sz) : Gives (row E sz (.slice A (n + m) c) (n + m) (xs ++ ys) :: M) (row E sz (.slice A n c) n xs :: M) := by
  rintro h ⟨h1, h2, l1, l2, dd, ⟨e1, e2, e3⟩, m2⟩
  refine ⟨h1, h2, l1, l2, dd, ⟨hl, fun u hu => e2 u (List.mem_append_left _ hu), ?_⟩, m2⟩
  rcases e3 with ⟨e, e'⟩ | ⟨gg, cap, cur, e, a, hc, hm, hcl, ht⟩
  · left
    simp only [Value.slice.injEq] at e ⊢
    exact ⟨⟨e.1, by omega, e.2.2⟩, by omega⟩
  · right
    simp only [Value.slice.injEq] at e
    obtain ⟨rfl, -, rfl⟩ := e
    refine ⟨gg, c, cur, rfl, a, by omega, hm, hcl, ?_⟩
    have : cur.take (n * sz) = (cur.take ((n + m) * sz)).take (n * sz) := by
      rw [List.take_take, Nat.min_eq_left (Nat.mul_le_mul_right _ (by omega))]
    rw [this, ht, ← hl, List.take_left]
attribute [local semireducible] Gives in
theorem Gives.into {A F : List HProp} {x : HProp} : Gives (x :: (A ++ F)) ((A ++ [x]) ++ F) := fun h m => by
  rw [List.append_assoc]
  exact star.perm List.perm_middle.symm m
attribute [local semireducible] Gives in
theorem Gives.outOf {A F : List HProp} {x : HProp} : Gives ((A ++ [x]) ++ F) (A ++ F) := fun h m => by
  rw [List.append_assoc] at m
  exact (star.perm List.perm_middle m).tail
end
section
variable {w0 : World} {R : RPar} {E : JE} {C : Ctx} {lens : List Nat} {S : Scope}
/-- A new cell at the end. -/
def RSt.more (t : RSt) (s : ByteArray) (v : Int) (u : Value) (A : Option Addr) (c : Nat) : RSt := ⟨(setVar t.r.1 s v, none), t.vs ++ [(s, v)], t.us ++ [u], A, c, t.Ao, t.co⟩
/-- The last cell is gone. -/
def RSt.less (t : RSt) : RSt := ⟨t.r, t.vs.dropLast, t.us.dropLast, t.A, t.c, t.Ao, t.co⟩
theorem more_cells (t : RSt) (R : RPar) (s : ByteArray) (v : Int) (u : Value) (A : Option Addr) (c : Nat) : (t.more s v u A c).cells R = t.cells R ++ [⟨s, false, [v]⟩] := by
  simp [RSt.cells, RSt.more, mkC, locC, setVar]
theorem more_m (t : RSt) (R : RPar) (s : ByteArray) (v : Int) (u : Value) (A : Option Addr) (c : Nat) (hl : t.us.length = (t.cells R).length) (F : List HProp) :
    Gives (row 54 3 (.slice A ((t.cells R).length + 1) c) ((t.cells R).length + 1) ((List.zipWith rcRow (t.cells R) t.us).flatten ++ rcRow ⟨s, false, [v]⟩ u) :: row 21 1 u 1 [.int .i32 v] :: row 106 2 (.slice t.Ao t.r.1.out.length t.co) t.r.1.out.length (outCells t.r.1.out) :: (innerM t.us ((t.cells R).map RC.l) ++ F)) ((t.more s v u A c).m R ++ F) := by
  have hm : (t.more s v u A c).m R = row 106 2 (.slice t.Ao t.r.1.out.length t.co) t.r.1.out.length (outCells t.r.1.out) :: row 54 3 (.slice A ((t.cells R).length + 1) c) ((t.cells R).length + 1) ((List.zipWith rcRow (t.cells R) t.us).flatten ++ rcRow ⟨s, false, [v]⟩ u) :: (innerM t.us ((t.cells R).map RC.l) ++ [row 21 1 u 1 [.int .i32 v]]) := by
    unfold RSt.m cellsM
    rw [more_cells]
    have h1 : (t.more s v u A c).us = t.us ++ [u] := rfl
    rw [h1, List.zipWith_append (by omega), List.flatten_append, List.map_append]
    simp only [List.length_append, List.length_singleton, List.map_cons, List.map_nil]
    rw [innerM_snoc _ _ _ _ (by simp [hl])]
    simp only [List.zipWith_cons_cons, List.zipWith_nil_right, List.flatten_cons, List.flatten_nil, List.append_nil, List.map_cons, List.map_nil, List.length_singleton]
    rfl
  rw [hm]
  exact Gives.cons (Takes.there (Takes.there (Takes.here _ _))) (Gives.cons (Takes.here _ _) Gives.into)
theorem snoc_of {α β : Type} {f : α → β} {l : List α} {r : List β} {x : β} (h : l.map f = r ++ [x]) : ∃ l' y, l = l' ++ [y] ∧ l'.map f = r ∧ f y = x := by
  induction l using snocRec with
  | nil => simp at h
  | append_singleton l' y _ =>
    refine ⟨l', y, rfl, ?_⟩
    rw [List.map_append, List.map_cons, List.map_nil] at h
    have := List.append_inj' h rfl
    exact ⟨this.1, by simpa using this.2⟩
theorem less_m (q : RSt) (R : RPar) {vs0 : Loc} {s : ByteArray} {v : Int} (hc : q.r.1.cells.length = R.names.length) (hq : RStOk R (vs0 ++ [(s, v)]) q) (F : List HProp) :
    Gives (q.m R ++ F) (q.less.m R ++ F) ∧ (q.cells R).length = (q.less.cells R).length + 1 ∧ q.less.vs.map (·.1) = vs0.map (·.1) ∧ q.less.us.length = (q.less.cells R).length ∧ (∀ p ∈ q.less.vs, I32 p.2) ∧ (q.r.2 = none → lookL q.less.vs = delI q.r.1.vars s ∨ ¬ lookL vs0 s = none) := by
  obtain ⟨vs', ⟨s', v'⟩, e1, e2, e3⟩ := snoc_of (r := vs0.map (·.1)) (x := s) (by rw [hq.nm]; simp)
  simp only at e3
  subst e3
  obtain ⟨r, vs, us, A, c, Ao, co⟩ := q
  simp only at e1 hc
  subst e1
  have hcl : (RSt.cells R ⟨r, vs' ++ [(s', v')], us, A, c, Ao, co⟩) = mkC R.names r.1.cells vs' ++ [⟨s', false, [v']⟩] := by simp [RSt.cells, mkC, locC]
  have hul : us.length = (mkC R.names r.1.cells vs').length + 1 := by
    have := hq.us
    rw [hcl] at this
    simpa using this
  obtain ⟨us', u', e4, e5⟩ : ∃ us' u', us = us' ++ [u'] ∧ us'.length = (mkC R.names r.1.cells vs').length := by
    refine ⟨us.dropLast, us.getLast (by intro h; rw [h] at hul; simp at hul), (List.dropLast_concat_getLast _).symm, by simp [hul]⟩
  subst e4
  have hless : (RSt.less ⟨r, vs' ++ [(s', v')], us' ++ [u'], A, c, Ao, co⟩) = ⟨r, vs', us', A, c, Ao, co⟩ := by simp [RSt.less]
  rw [hless]
  refine ⟨?_, ?_, e2, e5, ?_, ?_⟩
  · unfold RSt.m cellsM
    rw [hcl]
    simp only
    rw [List.zipWith_append (by simpa using e5.symm), List.flatten_append, List.map_append]
    simp only [List.length_append, List.length_singleton, List.map_cons, List.map_nil]
    rw [innerM_snoc _ _ _ _ (by simp [e5])]
    refine Gives.cons (Takes.here _ _) ?_
    refine Gives.trans (row_cut ?_) (Gives.cons (Takes.here _ _) Gives.outOf)
    have : ∀ (a : List RC) (b : List Value), a.length = b.length → (List.zipWith rcRow a b).flatten.length = a.length * 3 := by
      intro a
      induction a with
      | nil => intro b _; simp
      | cons x r ih =>
        intro b hb
        cases b with
        | nil => simp at hb
        | cons y z =>
          simp only [List.zipWith_cons_cons, List.flatten_cons, List.length_append, List.length_cons]
          rw [ih z (by simpa using hb)]
          simp [rcRow]
          omega
    exact this _ _ e5.symm
  · rw [hcl]; simp; rfl
  · exact fun p hp => hq.v32 p (List.mem_append_left _ hp)
  · intro hn
    by_cases h : lookL vs0 s' = none
    · left
      have hv := hq.vars hn
      simp only at hv
      rw [lookL_snoc] at hv
      rw [← hv]
      have hs : lookL vs' s' = none := mem_lookL.2 (by rw [e2]; exact mem_lookL.1 h)
      funext j
      simp only [delI, updI]
      split
      · rename_i hj; rw [hj]; exact hs
      · rfl
    · exact .inr h
end
end Go.Proofs.YtgmapenlgammfaaGreatDoor

/- The reference's For statement. -/
namespace Go.Proofs.YtgmapenlgammfaaGreatDoor
open Go
section
variable {w0 : World} {R : RPar} {E : JE} {C : Ctx} {lens : List Nat} {S : Scope}
theorem step_ghost (E : JE) (s : JS) (v : VM) : stepJ E { s with vars := v } = ({ (stepJ E s).1 with vars := v }, (stepJ E s).2) := by
  unfold stepJ; split <;> rfl
/-- Between the rounds. -/
structure RefC (R : RPar) (E : JE) (lens : List Nat) (vs0 : Loc) (s : ByteArray) (u : RSt) : Prop where
  us : u.us.length = (u.cells R).length
  nm : u.vs.map (·.1) = vs0.map (·.1)
  v32 : ∀ p ∈ u.vs, I32 p.2
  ok : OKJ E lens u.r.1
def RSt.ghost (u : RSt) : RSt := { u with r := ({ u.r.1 with vars := lookL u.vs }, none) }
theorem lookL_i32 {vs : Loc} (h : ∀ p ∈ vs, I32 p.2) : ∀ nm v, lookL vs nm = some v → I32 v := by
  induction vs using snocRec with
  | nil => intro nm v e; simp [lookL] at e
  | append_singleton r p ih =>
    intro nm v e
    rw [lookL_snoc] at e
    simp only [updI] at e
    split at e
    · injection e with e; subst e; exact h p (by simp)
    · exact ih (fun q hq => h q (List.mem_append_left _ hq)) nm v e
theorem RefC.ghost {vs0 : Loc} {s : ByteArray} {u : RSt} (h : RefC R E lens vs0 s u) {t : RSt} (hI : RefI R E C lens S t) (e : vs0 = t.vs) : RefI R E C lens S u.ghost := by
  subst e
  exact ⟨rfl, ⟨lookL_i32 h.v32, h.ok.cells, h.ok.lens, h.ok.read, h.ok.out, h.ok.steps⟩, h.us, h.v32, rfl, fun j => by rw [show u.ghost.vs = u.vs from rfl, h.nm]; exact hI.sc j, hI.lp⟩
theorem rfor_spec (F0 : RefF w0 R E C lens) (n : Int) (s : ByteArray) (hn1 : n ≤ 1000) (nb : Int) (sb : ByteArray) (l : List Node) (hsc : S.scalars s = false) (hok : ErrN (seqJ (l.map (execN E))))
    (hb : ROK w0 R E C lens 55 (.mk 47 nb sb l) (seqJ (l.map (execN E))) (scopeOf S 42 s)) :
    ROK w0 R E C lens 137 (.mk 42 n s [.mk 47 nb sb l]) (forJ E s (seqJ (l.map (execN E))) n.toNat 0) S := by
  intro t ncs hI hR hsz
  have hRn := hR
  obtain ⟨B, cp, rfl, hcap, hN⟩ := hR.kids
  have hsk : ∀ m ∈ [Node.mk 47 nb sb l], m.size < (Node.mk 42 n s [Node.mk 47 nb sb l]).size := fun m hm => Node.size_kid (n := .mk 42 n s [Node.mk 47 nb sb l]) (by simpa [Node.kids] using hm)
  simp only [Node.kind, Node.num, Node.name, Node.kids] at hRn hcap hN
  obtain ⟨W, hW⟩ : ∃ W, forJ E s (seqJ (l.map (execN E))) n.toNat 0 t.r.1 = W := ⟨_, rfl⟩
  rw [hW]
  refine Spec.enter (args := [_, _]) Tryz.func137 rfl rfl rfl (fun F => ?_)
  refine kAutoB ?_
  (apply RL.boxR; exact kEv; exact rfl; intro b2)
  (apply RL.box; exact kEv; exact rfl; intro b3)
  (apply RL.alloc; exact rfl; exact rfl; intro b4)
  refine kAutoB ?_
  have hlen0 := hI.clen F0
  have hns : lookL t.vs s = none := mem_lookL.2 (fun h => by have := (hI.sc s).2 h; rw [hsc] at this; cases this)
  refine CJ.loop (σ := Nat × RSt) (fun q => q.1 ≤ n.toNat ∧ RefC R E lens t.vs s q.2 ∧ ((q.2.r.2 = none ∧ lookL q.2.vs = delI q.2.r.1.vars s ∧ W = forJ E s (seqJ (l.map (execN E))) (n.toNat - q.1) (q.1 : Int) q.2.r.1) ∨ ∃ e, e ≠ 0 ∧ q.2.r.2 = some e ∧ W = q.2.r))
    (fun q => [(6, .int .i64 (q.1 : Int)), (5, .int .i64 ((t.cells R).length : Int)), (4, .pointer (some ⟨b4, 0, none⟩)), (3, .pointer (some ⟨b3, 0, none⟩)), (2, .pointer (some ⟨b2, 0, none⟩))])
    (fun q => cel b3 45 (q.2.v R) :: rcel b2 50 [.int .u8 42, .int .i64 n, .string s, .slice B [Node.mk 47 nb sb l].length cp] :: cel b4 45 zeroE :: (q.2.m R ++ F)) (fun q => n.toNat + 1 - q.1) (0, t)
    ⟨Nat.zero_le _, ⟨hI.us, rfl, hI.v32, hI.ok⟩, .inl ⟨hI.nn, ?_, hW.symm⟩⟩ (by exact kEsub) (by exact kGives) ?_
  · rw [hI.vars]
    funext j
    simp only [delI]
    split
    · rename_i h; rw [h, ← hI.vars]; exact hns
    · rfl
  rintro ⟨i, u⟩ ⟨hi, hu, hcase⟩
  simp only at hi hu hcase
  have hul : (u.cells R).length = (t.cells R).length := by
    have h1 := (hu.ghost hI rfl).clen F0
    rw [hlen0]
    rw [show u.ghost.cells R = u.cells R from rfl] at h1
    rw [h1]
    have h2 : u.vs.length = t.vs.length := by
      have := congrArg List.length hu.nm
      simpa using this
    rw [show u.ghost.vs = u.vs from rfl, h2]
  refine kAutoB ?_
  cases hlt : decide ((i : Int) < n)
  case false =>
    have hlt' := of_decide_eq_false hlt
    refine kAutoB ?_
    refine RL.s0 (OpS.storeA (q := 7) kEv kEv (by exact rfl) (vOne R u) (Takes.there (Takes.there (Takes.here _ _))) (by exact Nat.le_refl 7)) ?_ (fun _ _ h => h.elim)
    rintro _ _ rfl
    refine kAutoB ?_
    rcases hcase with ⟨hx, hlk, he⟩ | ⟨e, hne, hx, he⟩
    · rw [show n.toNat - i = 0 by omega] at he
      refine XJ.retC rfl rfl (HasAt.pt (Takes.here _ _) atAll) rfl (u.m R) (Gives.drop (Gives.drop (Gives.drop (Gives.refl _)))) ⟨u.up ({ u.r.1 with vars := delI u.r.1.vars s }, none), he.symm, ⟨hu.us, hu.nm, hu.v32, fun _ => hlk⟩, ?_, rfl⟩
      unfold RSt.v
      rw [errOf_none hx]
      rfl
    · exact XJ.retC rfl rfl (HasAt.pt (Takes.here _ _) atAll) rfl (u.m R) (Gives.drop (Gives.drop (Gives.drop (Gives.refl _)))) ⟨u, he.symm, ⟨hu.us, hu.nm, hu.v32, fun h => by rw [hx] at h; cases h⟩, rfl, rfl⟩
  have hlt' := of_decide_eq_true hlt
  refine kAutoB ?_
  rcases hcase with ⟨hx, hlk, he⟩ | ⟨e, hne, hx, he⟩
  case inr =>
    have h0 := errOf_some hx
    rw [show (errOf u.r == 0) = false by rw [h0]; simpa using hne]
    refine kAutoB ?_
    refine RL.s0 (OpS.storeA (q := 7) kEv kEv (by exact rfl) (vOne R u) (Takes.there (Takes.there (Takes.here _ _))) (by exact Nat.le_refl 7)) ?_ (fun _ _ h => h.elim)
    rintro _ _ rfl
    refine kAutoB ?_
    exact XJ.retC rfl rfl (HasAt.pt (Takes.here _ _) atAll) rfl (u.m R) (Gives.drop (Gives.drop (Gives.drop (Gives.refl _)))) ⟨u, he.symm, ⟨hu.us, hu.nm, hu.v32, fun h => by rw [hx] at h; cases h⟩, rfl, rfl⟩
  have h0 := errOf_none hx
  have hG := hu.ghost hI rfl
  have hgv : u.ghost.v R = u.v R := by unfold RSt.v; rw [h0]; rfl
  obtain ⟨k, hk⟩ : ∃ k, n.toNat - i = k + 1 := ⟨n.toNat - i - 1, by omega⟩
  rw [hk, forJ] at he
  rw [show (errOf u.r == 0) = true by rw [h0]; rfl]
  refine kAutoB ?_
  have hstp := rstep_R w0 F0 hG
  rw [hgv] at hstp
  have hgs : (u.ghost.up (stepJ E u.ghost.r.1)).v R = (u.up (stepJ E u.r.1)).v R := by
    have e1 : stepJ E u.ghost.r.1 = ({ (stepJ E u.r.1).1 with vars := lookL u.vs }, (stepJ E u.r.1).2) := step_ghost E u.r.1 (lookL u.vs)
    rw [e1]
    rfl
  rw [hgs] at hstp
  (apply RL.callIs; exact kEv; exact inferInstance; exact kEvl; exact hstp; exact rfl)
  refine kAutoB ?_
  refine RL.s0 (OpS.storeA (q := 7) kEv kEv (by exact rfl) (vOne R (u.up (stepJ E u.r.1))) (Takes.here _ _) (by exact Nat.le_refl 7)) ?_ (fun _ _ h => h.elim)
  rintro _ _ rfl
  refine kAutoB ?_
  have hsm := up_m u R (stepJ_same E u.r.1).1 (stepJ_same E u.r.1).2.1
  have hsl := up_len u R (stepJ_same E u.r.1).1
  cases hst : (stepJ E u.r.1).2 with
  | some e =>
    rw [bindJ_some hst] at he
    rw [show (errOf (u.up (stepJ E u.r.1)).r != 0) = true by
      have hne : e ≠ 0 := by
        rintro rfl
        exact ErrN.step E u.r.1 hst
      rw [errOf_some (r := (u.up (stepJ E u.r.1)).r) hst]
      simpa using hne]
    refine kAutoB ?_
    refine RL.s0 (OpS.storeA (q := 7) kEv kEv (by exact rfl) (vOne R (u.up (stepJ E u.r.1))) (Takes.there (Takes.there (Takes.here _ _))) (by exact Nat.le_refl 7)) ?_ (fun _ _ h => h.elim)
    rintro _ _ rfl
    refine kAutoB ?_
    refine XJ.retC rfl rfl (HasAt.pt (Takes.here _ _) atAll) rfl ((u.up (stepJ E u.r.1)).m R) ?_ ⟨u.up (stepJ E u.r.1), ?_, ⟨by rw [hsl]; exact hu.us, hu.nm, hu.v32, fun h => by rw [show (u.up (stepJ E u.r.1)).r.2 = some e from hst] at h; cases h⟩, rfl, rfl⟩
    · rw [hsm]
      exact Gives.drop (Gives.drop (Gives.drop (Gives.refl _)))
    · rw [he, ← hst]; rfl
  | none =>
  rw [bindJ_none hst] at he
  rw [show (errOf (u.up (stepJ E u.r.1)).r != 0) = false by rw [errOf_none (r := (u.up (stepJ E u.r.1)).r) hst]; rfl]
  refine kAutoB ?_
  obtain ⟨t1, ht1⟩ : ∃ t1 : RSt, t1 = u.up (stepJ E u.r.1) := ⟨_, rfl⟩
  have hvs : t1.vs = u.vs := by rw [ht1]; rfl
  have hr1 : stepJ E u.r.1 = t1.r := by rw [ht1]; rfl
  have hu1 : RefC R E lens t.vs s t1 := ⟨by rw [ht1, hsl]; exact hu.us, by rw [hvs]; exact hu.nm, by rw [hvs]; exact hu.v32, by rw [← hr1]; exact (stepJ_ok hu.ok).1⟩
  have hlk1 : lookL t1.vs = delI t1.r.1.vars s := by rw [hvs, ← hr1, (stepJ_same E u.r.1).2.2.2]; exact hlk
  have hul1 : (t1.cells R).length = (t.cells R).length := by rw [ht1, hsl]; exact hul
  have hnn1 : t1.r.2 = none := by rw [← hr1]; exact hst
  refine CJ.gives (M' := cel b3 45 ((u.up (stepJ E u.r.1)).v R) :: rcel b2 50 [.int .u8 42, .int .i64 n, .string s, .slice B [Node.mk 47 nb sb l].length cp] :: cel b4 45 zeroE :: ((u.up (stepJ E u.r.1)).m R ++ F)) (by rw [hsm]; exact kGives) ?_
  rw [← ht1]
  rw [hr1] at he
  clear hsm hsl hst hr1 ht1 hgs hstp hgv hG h0 hlk hx
  refine CJ.env (L' := [(6, .int .i64 (i : Int)), (5, .int .i64 ((t1.cells R).length : Int)), (4, .pointer (some ⟨b4, 0, none⟩)), (3, .pointer (some ⟨b3, 0, none⟩)), (2, .pointer (some ⟨b2, 0, none⟩))]) (by rw [hul1]; exact kEsub) ?_
  have hcl1 : (t1.cells R).length ≤ 10000 := by rw [hul1, hlen0]; have := F0.len; omega
  obtain ⟨x, hx⟩ : ∃ x, x = IntKind.i32.wrap (i : Int) := ⟨_, rfl⟩
  have hx32 : I32 x := by rw [hx]; exact I32.wrap _
  rw [← hx] at he
  refine CJ.gives (M' := cel b3 45 (t1.v R) :: rcel b2 50 [.int .u8 42, .int .i64 n, .string s, .slice B [Node.mk 47 nb sb l].length cp] :: cel b4 45 zeroE :: row 106 2 (.slice t1.Ao t1.r.1.out.length t1.co) t1.r.1.out.length (outCells t1.r.1.out) :: row 54 3 (.slice t1.A (t1.cells R).length t1.c) (t1.cells R).length (List.zipWith rcRow (t1.cells R) t1.us).flatten :: (innerM t1.us ((t1.cells R).map RC.l) ++ F)) (Gives.refl _) ?_
  refine CJ.factS (p := (t1.cells R).length ≤ t1.c) (fun w h mm sa => row_cap (Takes.there (Takes.there (Takes.there (Takes.there (Takes.here _ _))))) mm) ?_
  intro hcap1
  (refine CJ.draws mixed 14 [rcel b2 _ _, cel b3 _ _] (by exact kGives) (dom_of (by kernel_rfl)) ?_)
  ((first | refine kAjB 0 ?_ | refine kAjS 0 ?_); (first | refine kAjB 1 ?_ | refine kAjS 1 ?_); (first | refine kAjB 2 ?_ | refine kAjS 2 ?_); (first | refine kAjB 3 ?_ | refine kAjS 3 ?_))
  (apply AJ.pur (i := 4); exact rfl; exact rfl; exact rfl; exact rfl; exact rfl; exact rfl; exact rfl; exact rfl; exact rfl; exact OpP.clip kEv kEv kEv hcap1)
  ((first | refine kAjB 5 ?_ | refine kAjS 5 ?_); (first | refine kAjB 6 ?_ | refine kAjS 6 ?_); (first | refine kAjB 7 ?_ | refine kAjS 7 ?_); (first | refine kAjB 8 ?_ | refine kAjS 8 ?_))
  rw [← hx]
  (refine AJ.loud1 (i := 9) (by kernel_rfl) (by kernel_rfl) rfl (by kernel_rfl) (by kernel_rfl) rfl rfl rfl rfl rfl rfl (OpS.buildSlice (E := 21) [.int .i32 x] rfl (by exact kEvl) (fun w => by kernel_rfl)) ?_ ?_)
  rotate_left
  · rintro _ _ h; exact h.elim
  rintro _ _ ⟨bS, rfl, rfl⟩
  refine ⟨by exact kGives, ?_⟩
  (apply AJ.pur (i := 10); exact rfl; exact rfl; exact rfl; exact rfl; exact rfl; exact rfl; exact rfl; exact rfl; exact rfl; exact OpP.build (r := .agg (rcRow ⟨s, false, [x]⟩ (.slice (some ⟨bS, 0, none⟩) 1 1)).toArray) (by exact kEvl) rfl (fun w => by kernel_rfl))
  (refine AJ.loud1 (i := 11) (by kernel_rfl) (by kernel_rfl) rfl (by kernel_rfl) (by kernel_rfl) rfl rfl rfl rfl rfl rfl (OpS.buildSlice (E := 54) (rcRow ⟨s, false, [x]⟩ (.slice (some ⟨bS, 0, none⟩) 1 1)) rfl (by exact kEvl) (fun w => by kernel_rfl)) ?_ ?_)
  rotate_left
  · rintro _ _ h; exact h.elim
  rintro _ _ ⟨bT, rfl, rfl⟩
  refine ⟨by exact kGives, ?_⟩
  (refine AJ.loud1 (i := 12) (by kernel_rfl) (by kernel_rfl) rfl (by kernel_rfl) (by kernel_rfl) rfl rfl rfl rfl rfl rfl (OpS.appendNew (m := 1) (n := (t1.cells R).length) (xs := (List.zipWith rcRow (t1.cells R) t1.us).flatten) (news := rcRow ⟨s, false, [x]⟩ (.slice (some ⟨bS, 0, none⟩) 1 1)) (by exact kEv) (by exact kEv) (fun h m => ⟨(row_src (w := w0) (Takes.there (Takes.there (Takes.there (Takes.there (Takes.there (Takes.there (Takes.here _ _))))))) m).clip, fun A l c e => by simp only [Value.slice.injEq] at e; omega⟩) (fun h m => ⟨rfl, by simp [rcRow, Value.oneCell'], .inr ⟨_, _, _, rfl, HasAt.pt (Takes.here _ _) atAll⟩⟩) Nat.zero_lt_one (by simp only [maxLen]; omega) (by omega)) ?_ ?_)
  rotate_left
  · rintro _ _ h; exact h.elim
  rintro _ _ ⟨⟨A2, c2, rfl⟩, rfl⟩
  refine ⟨by exact kGives, ?_⟩
  ((first | refine kAjB 13 ?_ | refine kAjS 13 ?_))
  (refine AJ.tail (by kernel_rfl) (by kernel_rfl) rfl (by kernel_rfl) (by kernel_rfl) (by kernel_rfl) ?_)
  (apply RL.store; exact kEv; exact kEv; exact kTake; exact rfl; exact rfl; exact rfl)
  refine kAutoB ?_
  obtain ⟨t2, ht2⟩ : ∃ t2 : RSt, t2 = t1.more s x (.slice (some ⟨bS, 0, none⟩) 1 1) A2 c2 := ⟨_, rfl⟩
  have hv2 : t2.v R = setSeg (t1.v R) [.slice A2 ((t1.cells R).length + 1) c2] (0 + 0) := by
    rw [ht2]
    unfold RSt.v
    rw [more_cells, List.length_append, errOf_none hnn1, List.length_singleton]
    rfl
  refine CJ.gives (M' := cel b3 45 (t2.v R) :: rcel b2 50 [.int .u8 42, .int .i64 n, .string s, .slice B [Node.mk 47 nb sb l].length cp] :: cel b4 45 zeroE :: (t2.m R ++ F)) ?_ ?_
  · rw [hv2]
    refine Gives.cons (by exact kTake) (Gives.cons (by exact kTake) (Gives.cons (by exact kTake) ?_))
    rw [ht2]
    refine Gives.trans ?_ (more_m t1 R s x _ A2 c2 hu1.us F)
    refine Gives.cons (by exact kTake) ?_
    refine Gives.trans (Gives.cons (Takes.there (Takes.here _ _)) (Gives.refl _)) ?_
    refine Gives.trans (row_of_cel (sz := 1) (n := 1) rfl (by simp [Value.oneCell']) (by decide) _) ?_
    exact Gives.cons (Takes.here _ _) (Gives.cons (Takes.there (Takes.here _ _)) (Gives.drop (Gives.drop (Gives.refl _))))
  refine CJ.env (L' := [(6, .int .i64 (i : Int)), (5, .int .i64 ((t1.cells R).length : Int)), (4, .pointer (some ⟨b4, 0, none⟩)), (3, .pointer (some ⟨b3, 0, none⟩)), (2, .pointer (some ⟨b2, 0, none⟩))]) (by exact kEsub) ?_
  have hI2 : RefI R E C lens (scopeOf S 42 s) t2 := by
    rw [ht2]
    refine ⟨rfl, hu1.ok.setVar s hx32, ?_, ?_, ?_, ?_, ?_⟩
    · rw [more_cells, List.length_append, ← hu1.us]
      simp [RSt.more]
    · intro p hp
      rcases List.mem_append.1 hp with hp | hp
      · exact hu1.v32 p hp
      · simp at hp; subst hp; exact hx32
    · show lookL (t1.vs ++ [(s, x)]) = updI t1.r.1.vars s x
      rw [lookL_snoc, hlk1]
      funext j
      simp only [updI, delI]
      split <;> rfl
    · intro j
      show (decide (j = s) || S.scalars j) = true ↔ j ∈ (t1.vs ++ [(s, x)]).map (·.1)
      rw [List.map_append, hu1.nm]
      have := hI.sc j
      simp only [Bool.or_eq_true, decide_eq_true_eq, List.mem_append, List.map_cons, List.map_nil, List.mem_singleton, this]
      exact Or.comm
    · intro j hj
      have hj' : (decide (j = s) || S.scalars j) = true := hj
      show C.vars j = true ∨ (decide (j = s) || S.loops j) = true
      rw [Bool.or_eq_true] at hj'
      rcases hj' with h | h
      · exact .inr (by rw [h]; rfl)
      · rcases hI.lp j h with h | h
        · exact .inl h
        · exact .inr (by rw [h]; simp)
  have hl2 : t2.vs.length = t.vs.length + 1 := by
    have := congrArg List.length hu1.nm
    simp only [List.length_map] at this
    rw [ht2]
    show (t1.vs ++ [(s, x)]).length = _
    rw [List.length_append, this]
    rfl
  have hr2 : t2.r.1 = setVar t1.r.1 s x := by rw [ht2]; rfl
  have hvs2 : t2.vs = t1.vs ++ [(s, x)] := by rw [ht2]; rfl
  rw [← hr2] at he
  obtain ⟨bq, o, r, e1, hbs, hrl, hr⟩ := hN.at_ 0 (by simp)
  subst e1
  have hq := hb t2 r hI2 hr (by have := hsk _ (List.mem_singleton.2 rfl); omega)
  (refine CJ.draws mixed 6 [rcel b2 _ _, cel b3 _ _] (by exact kGives) (dom_of (by kernel_rfl)) ?_)
  ((first | refine kAjB 0 ?_ | refine kAjS 0 ?_); (first | refine kAjB 1 ?_ | refine kAjS 1 ?_))
  (apply AJ.pur (i := 2); exact rfl; exact rfl; exact rfl; exact rfl; exact rfl; exact rfl; exact rfl; exact rfl; exact rfl; exact OpP.indexAddrC 0 kEv rfl (show 0 < 1 by decide) (o + 0 * 4) rfl)
  (apply AJ.pur (i := 3); exact rfl; exact rfl; exact rfl; exact rfl; exact rfl; exact rfl; exact rfl; exact rfl; exact rfl; (apply OpP.loadA; exact kEv; exact HasAt.base hbs; exact hrl))
  ((first | refine kAjB 4 ?_ | refine kAjS 4 ?_))
  (refine AJ.loud1 (i := 5) (by kernel_rfl) (by kernel_rfl) rfl (by kernel_rfl) (by kernel_rfl) rfl rfl rfl rfl rfl rfl (OpS.call (by exact kEv) inferInstance (by exact kEvl) (Takes.there1 (Takes.there1 (Takes.there1 (Takes.app _ _)))) hq) ?_ ?_)
  rotate_left
  · rintro _ _ ⟨_, h, _⟩; exact h.elim
  rintro _ _ ⟨N, ⟨q, he2, hq, rfl, rfl⟩, rfl⟩
  refine ⟨Gives.skipApp (by exact kGives), ?_⟩
  (refine AJ.tail (by kernel_rfl) (by kernel_rfl) rfl (by kernel_rfl) (by kernel_rfl) (by kernel_rfl) ?_)
  refine RL.gives (M' := cel b3 45 (t2.v R) :: rcel b2 50 _ :: cel b4 45 zeroE :: (q.m R ++ F)) (Gives.cons (Takes.appR _ (Takes.here _ _)) (Gives.cons (Takes.appR _ (Takes.here _ _)) (Gives.cons (Takes.appR _ (Takes.here _ _)) (Gives.refl _)))) ?_
  refine RL.s0 (OpS.storeA (q := 7) kEv kEv (by exact rfl) (vOne R q) (Takes.here _ _) (by exact Nat.le_refl 7)) ?_ (fun _ _ h => h.elim)
  rintro _ _ rfl
  refine kAutoB ?_
  have hokq : OKJ E lens q.r.1 := by rw [he2]; exact seq_ok _ F0.i32 hI2.ok
  rw [hvs2] at hq
  obtain ⟨hm9, hlq, hnq, husq, h32q, hlkq⟩ := less_m q R (by rw [hokq.len, F0.ll]) hq F
  have hll : (q.less.cells R).length = (t1.cells R).length := by
    have h1 : (q.cells R).length = (t1.cells R).length + 1 := by
      have h2 := hq.us
      have h3 := hu1.us
      have h4 : q.vs.length = t1.vs.length + 1 := by
        have := congrArg List.length hq.nm
        simpa using this
      have h5 : (q.cells R).length = R.names.length + q.vs.length := mkC_len (by rw [hokq.len, F0.ll])
      have h6 : (t1.cells R).length = R.names.length + t1.vs.length := mkC_len (by rw [hu1.ok.len, F0.ll])
      omega
    omega
  refine RL.gives (M' := cel b3 45 (q.v R) :: rcel b2 50 _ :: cel b4 45 zeroE :: (q.m R ++ F)) (by exact kGives) ?_
  refine RL.factS (p := (q.cells R).length ≤ q.c) (fun w h mm sa => row_cap (Takes.there (Takes.there (Takes.there (Takes.there (Takes.here _ _))))) mm) ?_
  intro hcapq
  apply RL.pur; (exact OpP.cutTo kEv kEv (by omega)); exact rfl
  refine kAutoB ?_
  (apply RL.store; exact kEv; exact kEv; exact kTake; exact rfl; exact rfl; exact rfl)
  refine kAutoB ?_
  rw [i64_succ i (by omega)]
  have hv9 : q.less.v R = setSeg (q.v R) [.slice q.A (t1.cells R).length q.c] (0 + 0) := by
    unfold RSt.v
    rw [hll]
    rfl
  refine XJ.round (i + 1, q.less) ⟨by simp only; omega, ⟨husq, ?_, h32q, hokq⟩, ?_⟩ (by simp only; omega) (by rw [← hul1]; exact kEsub) ?_
  · rw [hnq, hu1.nm]
  · simp only
    have hnk : n.toNat - (i + 1) = k := by omega
    rw [hnk]
    have hci : ((i + 1 : Nat) : Int) = (i : Int) + 1 := by omega
    rw [hci]
    rw [← he2] at he
    cases hz : q.r.2 with
    | none =>
      rw [bindJ_none hz] at he
      refine .inl ⟨hz, ?_, he⟩
      rcases hlkq hz with h | h
      · exact h
      · exact absurd (by rw [hlk1]; simp [delI]) h
    | some e =>
      rw [bindJ_some hz] at he
      refine .inr ⟨e, ?_, hz, by rw [he, ← hz]; rfl⟩
      rintro rfl
      exact hok t2.r.1 (he2 ▸ hz)
  · rw [hv9]
    exact Gives.cons (by exact kTake) (Gives.cons (by exact kTake) (Gives.cons (by exact kTake) hm9))
end
end Go.Proofs.YtgmapenlgammfaaGreatDoor

/- The reference's statements, all. -/
namespace Go.Proofs.YtgmapenlgammfaaGreatDoor
open Go
section
variable {w0 : World} {R : RPar} {E : JE} {C : Ctx} {lens : List Nat} {S : Scope}
theorem rstmt_for (F0 : RefF w0 R E C lens) (n : Int) (s : ByteArray) (nb : Int) (sb : ByteArray) (l : List Node) (hb : ROK w0 R E C lens 137 (.mk 42 n s [Node.mk 47 nb sb l]) (forJ E s (seqJ (l.map (execN E))) n.toNat 0) S) :
    ROK w0 R E C lens 92 (.mk 42 n s [Node.mk 47 nb sb l]) (execN E (.mk 42 n s [Node.mk 47 nb sb l])) S := by
  intro t ncs hI hR hsz
  have hRn := hR
  obtain ⟨B, cp, rfl, hcap, hN⟩ := hR.kids
  have hsk : ∀ m ∈ [Node.mk 47 nb sb l], m.size < (Node.mk 42 n s [Node.mk 47 nb sb l]).size := fun m hm => Node.size_kid (n := .mk 42 n s [Node.mk 47 nb sb l]) (by simpa [Node.kids] using hm)
  simp only [Node.kind, Node.num, Node.name, Node.kids] at hRn hcap hN
  rw [exec_for]
  refine Spec.enter (args := [_, _]) Tryz.func92 rfl rfl rfl (fun F => ?_)
  refine kAutoB ?_
  (apply RL.boxR; exact kEv; exact rfl; intro b2)
  (apply RL.box; exact kEv; exact rfl; intro b3)
  (apply RL.alloc; exact rfl; exact rfl; intro b4)
  refine kAutoB ?_
  (apply RL.callIs; exact kEv; exact inferInstance; exact kEvl; exact (rstep_R w0 F0 hI); exact rfl)
  refine kAutoB ?_
  refine RL.s0 (OpS.storeA (q := 7) kEv kEv (by exact rfl) (vOne R _) (Takes.there (Takes.here _ _)) (by exact Nat.le_refl 7)) ?_ (fun _ _ h => h.elim)
  rintro _ _ rfl
  refine kAutoB ?_
  have hsm := up_m t R (stepJ_same E t.r.1).1 (stepJ_same E t.r.1).2.1
  cases hst : (stepJ E t.r.1).2 with
  | some e =>
    rw [bindJ_some hst]
    rw [show (errOf (t.up (stepJ E t.r.1)).r != 0) = true by
      have hne : e ≠ 0 := by
        rintro rfl
        exact ErrN.step E t.r.1 hst
      rw [errOf_some (r := (t.up (stepJ E t.r.1)).r) hst]
      simpa using hne]
    refine kAutoB ?_
    refine RL.s0 (OpS.storeA (q := 7) kEv kEv (by exact rfl) (vOne R _) (Takes.there (Takes.here _ _)) (by exact Nat.le_refl 7)) ?_ (fun _ _ h => h.elim)
    rintro _ _ rfl
    refine kAutoB ?_
    refine XJ.retC rfl rfl (HasAt.pt (Takes.here _ _) atAll) rfl ((t.up (stepJ E t.r.1)).m R) ?_ ⟨t.up (stepJ E t.r.1), ?_, hI.okUp (stepJ_same E t.r.1).1 (stepJ_same E t.r.1).2.2.2, rfl, rfl⟩
    · rw [hsm]
      exact Gives.drop (Gives.drop (Gives.drop (Gives.refl _)))
    · rw [← hst]; rfl
  | none =>
  have hI1 := hI.stepI hst
  rw [bindJ_none hst]
  rw [show (errOf (t.up (stepJ E t.r.1)).r != 0) = false by rw [errOf_none (r := (t.up (stepJ E t.r.1)).r) hst]; rfl]
  refine kAutoB ?_
  refine RL.gives (M' := cel b3 45 ((t.up (stepJ E t.r.1)).v R) :: rcel b2 50 _ :: cel b4 45 zeroE :: ((t.up (stepJ E t.r.1)).m R ++ F)) (by rw [hsm]; exact kGives) ?_
  obtain ⟨t1, ht1⟩ : ∃ t1 : RSt, t1 = t.up (stepJ E t.r.1) := ⟨_, rfl⟩
  have hvs : t.vs = t1.vs := by rw [ht1]; rfl
  have hr1 : stepJ E t.r.1 = t1.r := by rw [ht1]; rfl
  rw [← ht1] at hI1 ⊢
  rw [hvs] at hsz ⊢
  rw [hr1]
  clear hsm hst hI hr1 hvs ht1
  have hsz' : ∀ m ∈ [Node.mk 47 nb sb l], t1.vs.length + m.size ≤ 5000 := fun m hm => by have := hsk m hm; omega
  have hq := hb t1 _ hI1 hRn hsz
  refine kAutoB ?_
  (apply RL.callK; exact kEv; exact inferInstance; exact kEvl; rotate_left; exact hq; rotate_right; exact Takes.there1 (Takes.there1 (Takes.there1 (Takes.app _ _))); exact rfl)
  rintro _ _ ⟨q, he2, hq, rfl, rfl⟩
  refine kAutoB ?_
  refine RL.s0 (OpS.storeA (q := 7) kEv kEv (by exact rfl) (vOne R q) (Takes.appR _ (Takes.there (Takes.there (Takes.here _ _)))) (by exact Nat.le_refl 7)) ?_ (fun _ _ h => h.elim)
  rintro _ _ rfl
  refine kAutoB ?_
  exact XJ.retC rfl rfl (HasAt.pt (Takes.here _ _) atAll) rfl (q.m R) (Gives.drop (Gives.dropMid (B := [_, _]))) ⟨q, he2, hq, rfl, rfl⟩
theorem rstmt_while (F0 : RefF w0 R E C lens) (n : Int) (s : ByteArray) (c : Node) (nb : Int) (sb : ByteArray) (l : List Node) (hb : ROK w0 R E C lens 138 (.mk 43 n s [c, Node.mk 47 nb sb l]) (whileJ E c (seqJ (l.map (execN E))) n.toNat) S) :
    ROK w0 R E C lens 92 (.mk 43 n s [c, Node.mk 47 nb sb l]) (execN E (.mk 43 n s [c, Node.mk 47 nb sb l])) S := by
  intro t ncs hI hR hsz
  have hRn := hR
  obtain ⟨B, cp, rfl, hcap, hN⟩ := hR.kids
  have hsk : ∀ m ∈ [c, Node.mk 47 nb sb l], m.size < (Node.mk 43 n s [c, Node.mk 47 nb sb l]).size := fun m hm => Node.size_kid (n := .mk 43 n s [c, Node.mk 47 nb sb l]) (by simpa [Node.kids] using hm)
  simp only [Node.kind, Node.num, Node.name, Node.kids] at hRn hcap hN
  rw [exec_while]
  refine Spec.enter (args := [_, _]) Tryz.func92 rfl rfl rfl (fun F => ?_)
  refine kAutoB ?_
  (apply RL.boxR; exact kEv; exact rfl; intro b2)
  (apply RL.box; exact kEv; exact rfl; intro b3)
  (apply RL.alloc; exact rfl; exact rfl; intro b4)
  refine kAutoB ?_
  (apply RL.callIs; exact kEv; exact inferInstance; exact kEvl; exact (rstep_R w0 F0 hI); exact rfl)
  refine kAutoB ?_
  refine RL.s0 (OpS.storeA (q := 7) kEv kEv (by exact rfl) (vOne R _) (Takes.there (Takes.here _ _)) (by exact Nat.le_refl 7)) ?_ (fun _ _ h => h.elim)
  rintro _ _ rfl
  refine kAutoB ?_
  have hsm := up_m t R (stepJ_same E t.r.1).1 (stepJ_same E t.r.1).2.1
  cases hst : (stepJ E t.r.1).2 with
  | some e =>
    rw [bindJ_some hst]
    rw [show (errOf (t.up (stepJ E t.r.1)).r != 0) = true by
      have hne : e ≠ 0 := by
        rintro rfl
        exact ErrN.step E t.r.1 hst
      rw [errOf_some (r := (t.up (stepJ E t.r.1)).r) hst]
      simpa using hne]
    refine kAutoB ?_
    refine RL.s0 (OpS.storeA (q := 7) kEv kEv (by exact rfl) (vOne R _) (Takes.there (Takes.here _ _)) (by exact Nat.le_refl 7)) ?_ (fun _ _ h => h.elim)
    rintro _ _ rfl
    refine kAutoB ?_
    refine XJ.retC rfl rfl (HasAt.pt (Takes.here _ _) atAll) rfl ((t.up (stepJ E t.r.1)).m R) ?_ ⟨t.up (stepJ E t.r.1), ?_, hI.okUp (stepJ_same E t.r.1).1 (stepJ_same E t.r.1).2.2.2, rfl, rfl⟩
    · rw [hsm]
      exact Gives.drop (Gives.drop (Gives.drop (Gives.refl _)))
    · rw [← hst]; rfl
  | none =>
  have hI1 := hI.stepI hst
  rw [bindJ_none hst]
  rw [show (errOf (t.up (stepJ E t.r.1)).r != 0) = false by rw [errOf_none (r := (t.up (stepJ E t.r.1)).r) hst]; rfl]
  refine kAutoB ?_
  refine RL.gives (M' := cel b3 45 ((t.up (stepJ E t.r.1)).v R) :: rcel b2 50 _ :: cel b4 45 zeroE :: ((t.up (stepJ E t.r.1)).m R ++ F)) (by rw [hsm]; exact kGives) ?_
  obtain ⟨t1, ht1⟩ : ∃ t1 : RSt, t1 = t.up (stepJ E t.r.1) := ⟨_, rfl⟩
  have hvs : t.vs = t1.vs := by rw [ht1]; rfl
  have hr1 : stepJ E t.r.1 = t1.r := by rw [ht1]; rfl
  rw [← ht1] at hI1 ⊢
  rw [hvs] at hsz ⊢
  rw [hr1]
  clear hsm hst hI hr1 hvs ht1
  have hsz' : ∀ m ∈ [c, Node.mk 47 nb sb l], t1.vs.length + m.size ≤ 5000 := fun m hm => by have := hsk m hm; omega
  have hq := hb t1 _ hI1 hRn hsz
  refine kAutoB ?_
  (apply RL.callK; exact kEv; exact inferInstance; exact kEvl; rotate_left; exact hq; rotate_right; exact Takes.there1 (Takes.there1 (Takes.there1 (Takes.app _ _))); exact rfl)
  rintro _ _ ⟨q, he2, hq, rfl, rfl⟩
  refine kAutoB ?_
  refine RL.s0 (OpS.storeA (q := 7) kEv kEv (by exact rfl) (vOne R q) (Takes.appR _ (Takes.there (Takes.there (Takes.here _ _)))) (by exact Nat.le_refl 7)) ?_ (fun _ _ h => h.elim)
  rintro _ _ rfl
  refine kAutoB ?_
  exact XJ.retC rfl rfl (HasAt.pt (Takes.here _ _) atAll) rfl (q.m R) (Gives.drop (Gives.dropMid (B := [_, _]))) ⟨q, he2, hq, rfl, rfl⟩
theorem stmtK {n : Int} {k : Int} {s : ByteArray} {kids : List Node} (h : isB (.mk k n s kids) 4 = true) : (∀ p e, k = 40 → kids = [p, e] → isB p 2 = true ∧ isB e 1 = true) ∧ (∀ c a b, k = 41 → kids = [c, a, b] → isB c 1 = true ∧ isB a 8 = true ∧ isB b 8 = true) ∧ (∀ b, k = 42 → kids = [b] → isB b 8 = true) ∧ (∀ c b, k = 43 → kids = [c, b] → isB c 1 = true ∧ isB b 8 = true) ∧ (∀ p, k = 44 → kids = [p] → isB p 2 = true) ∧ (∀ e, k = 45 → kids = [e] → isB e 1 = true) ∧ (∀ b, k = 46 → kids = [b] → isB b 8 = true) := by
  have h' := stmt_cases h
  cases h' <;> simp <;> (intros; subst_vars; try simp_all)
theorem rstmt_all (F0 : RefF w0 R E C lens) : ∀ (m : Nat) (n : Node) (S : Scope), n.size ≤ m → isB n 4 = true → WsS C S n → (∀ j, S.scalars j = true → C.vars j = true ∨ S.loops j = true) → ROK w0 R E C lens 92 n (execN E n) S := by
  intro m
  induction m with
  | zero => intro n S h; have := n.size_pos; omega
  | succ m ih =>
    intro n S hm hB hw hlp
    have hblk : ∀ (S' : Scope) (nb : Int) (sb : ByteArray) (l : List Node), (Node.mk 47 nb sb l).size ≤ m → isB (.mk 47 nb sb l) 8 = true → (∀ q ∈ l, WsS C S' q) → (∀ j, S'.scalars j = true → C.vars j = true ∨ S'.loops j = true) → ROK w0 R E C lens 55 (.mk 47 nb sb l) (seqJ (l.map (execN E))) S' := by
      intro S' nb sb l hs hB8 hws hl'
      obtain ⟨-, hk⟩ := block_cases hB8
      refine rblock_spec F0 nb sb l (fun q hq => exec_ne0 (hws q hq)) (fun q hq => ih q S' ?_ (hk q hq) (hws q hq) hl')
      have := Node.size_kid (n := .mk 47 nb sb l) (m := q) (by simpa [Node.kids] using hq)
      omega
    cases hw with
    | assign _ n s p e hp he =>
      obtain ⟨h1, h2⟩ := (stmtK hB).1 p e rfl rfl
      exact rassign_spec F0 n s p e h1 hp h2 he
    | cond _ n s c na sa la nb sb lb hc ha hb =>
      obtain ⟨h1, h2, h3⟩ := (stmtK hB).2.1 c _ _ rfl rfl
      have hs1 := Node.size_kid (n := .mk 41 n s [c, .mk 47 na sa la, .mk 47 nb sb lb]) (m := .mk 47 na sa la) (by simp [Node.kids])
      have hs2 := Node.size_kid (n := .mk 41 n s [c, .mk 47 na sa la, .mk 47 nb sb lb]) (m := .mk 47 nb sb lb) (by simp [Node.kids])
      exact rif_spec F0 n s c h1 hc na sa la nb sb lb (hblk S na sa la (by omega) h2 ha hlp) (hblk S nb sb lb (by omega) h3 hb hlp)
    | count _ n s nb sb l h1 h2 h3 h4 h5 h6 hl =>
      have hB8 := (stmtK hB).2.2.1 _ rfl rfl
      have hs1 := Node.size_kid (n := .mk 42 n s [.mk 47 nb sb l]) (m := .mk 47 nb sb l) (by simp [Node.kids])
      have hsc : S.scalars s = false := by
        cases h : S.scalars s with
        | false => rfl
        | true => rcases hlp s h with h' | h' <;> simp_all
      refine rstmt_for F0 n s nb sb l (rfor_spec F0 n s h2 nb sb l hsc (.seq fun q hq => exec_ne0 (hl q hq)) (hblk _ nb sb l (by omega) hB8 hl ?_))
      intro j hj
      have hj' : (decide (j = s) || S.scalars j) = true := hj
      show C.vars j = true ∨ (decide (j = s) || S.loops j) = true
      rw [Bool.or_eq_true] at hj'
      rcases hj' with h | h
      · exact .inr (by rw [h]; rfl)
      · rcases hlp j h with h | h
        · exact .inl h
        · exact .inr (by rw [h]; simp)
    | while_ _ n s c nb sb l h1 h2 hc hl =>
      obtain ⟨hB1, hB8⟩ := (stmtK hB).2.2.2.1 c _ rfl rfl
      have hs1 := Node.size_kid (n := .mk 43 n s [c, .mk 47 nb sb l]) (m := .mk 47 nb sb l) (by simp [Node.kids])
      exact rstmt_while F0 n s c nb sb l (rwhile_spec F0 n s c h2 hB1 hc nb sb l (.seq fun q hq => exec_ne0 (hl q hq)) (hblk S nb sb l (by omega) hB8 hl hlp))
    | inp _ n s p h1 h2 hp => exact rin_spec F0 n s p ((stmtK hB).2.2.2.2.1 p rfl rfl) hp
    | out _ n s e h1 h2 he => exact rout_spec F0 n s e ((stmtK hB).2.2.2.2.2.1 e rfl rfl) he
    | lock _ n s nb sb l h1 h2 hl =>
      have hB8 := (stmtK hB).2.2.2.2.2.2 _ rfl rfl
      have hs1 := Node.size_kid (n := .mk 46 n s [.mk 47 nb sb l]) (m := .mk 47 nb sb l) (by simp [Node.kids])
      have hR : ROK w0 R E C lens 55 (.mk 47 nb sb l) (seqJ (l.map (execN E))) (scopeOf S 46 s) := hblk _ nb sb l (by omega) hB8 hl hlp
      refine rlock_spec F0 n s nb sb l ?_
      intro t ncs hI hn hz
      exact hR t ncs ⟨hI.nn, hI.ok, hI.us, hI.v32, hI.vars, hI.sc, hI.lp⟩ hn hz
/-- A block of a task. -/
theorem rblock_all (F0 : RefF w0 R E C lens) (S : Scope) (nb : Int) (sb : ByteArray) (l : List Node) (hB : isB (.mk 47 nb sb l) 8 = true) (hw : ∀ q ∈ l, WsS C S q) (hlp : ∀ j, S.scalars j = true → C.vars j = true ∨ S.loops j = true) : ROK w0 R E C lens 55 (.mk 47 nb sb l) (seqJ (l.map (execN E))) S :=
  rblock_spec F0 nb sb l (fun q hq => exec_ne0 (hw q hq)) (fun q hq => rstmt_all F0 q.size q S (Nat.le_refl _) ((block_cases hB).2 q hq) (hw q hq) hlp)
end
end Go.Proofs.YtgmapenlgammfaaGreatDoor

/- The reference's Arrays: cells with copies. -/
namespace Go.Proofs.YtgmapenlgammfaaGreatDoor
open Go
theorem arrC_snoc (l : List Arr) (m : List (List Int)) {i : Nat} (h1 : i < l.length) (h2 : i < m.length) : arrC (arrNames (l.take (i + 1))) (m.take (i + 1)) = arrC (arrNames (l.take i)) (m.take i) ++ [⟨l[i].name, true, m[i]⟩] := by
  unfold arrC arrNames
  rw [List.take_succ_eq_append_getElem h1, List.take_succ_eq_append_getElem h2, List.map_append, List.zipWith_append (by simp; omega)]
  rfl
theorem arrC_l (names : List ByteArray) (m : List (List Int)) (h : names.length = m.length) : (arrC names m).map RC.l = m := by
  apply List.ext_getElem?
  intro i
  simp only [arrC, List.getElem?_map, List.getElem?_zipWith]
  by_cases hi : i < m.length
  · simp [hi, show i < names.length by omega]
  · simp [hi, show ¬ i < names.length by omega]
theorem rcRow_one' (c : RC) {u : Value} (h : u.oneCell' = true) : ∀ x ∈ rcRow c u, x.oneCell' = true := by
  intro x hx
  simp only [rcRow, List.mem_cons, List.not_mem_nil, or_false] at hx
  rcases hx with rfl | rfl | rfl
  · rfl
  · rfl
  · exact h
/-- The cells so far. -/
def cellsI (l : List Arr) (m : List (List Int)) (i : Nat) (us : List Value) (A : Option Addr) (c : Nat) : List HProp :=
  row 54 3 (.slice A i c) i (List.zipWith rcRow (arrC (arrNames (l.take i)) (m.take i)) us).flatten :: innerM us (m.take i)
theorem Arrays_spec (w0 : World) (l : List Arr) (A1 : Option Addr) (c1 : Nat) (hA : RowsB w0 2 A1 (l.map arrRow)) (v : Value) (m : List (List Int)) (hM : MatR w0 v m) (hlm : l.length = m.length) (hs : l.length ≤ 100000) (hi : ∀ x ∈ m, x.length ≤ 1000000) :
    Spec Tryz.prog w0 54 #[.slice A1 l.length c1, v] [] (Ret (fun v' N => ∃ A c us, v' = .slice A l.length c ∧ us.length = l.length ∧ N = cellsM (arrC (arrNames l) m) us A c) noP) := by
  obtain ⟨Am, cm, vs, rfl, hcm, hvl, hrm, him⟩ := hM
  refine Spec.enter (args := [_, _]) Tryz.func54 rfl rfl rfl (fun F => ?_)
  refine kAutoB ?_
  (apply RL.buildSlice; exact rfl; exact kEvl; exact rfl; (intro w; kernel_rfl); exact rfl; intro b7)
  refine kAutoB ?_
  refine CJ.gives (row_of_cel (n := 0) (sz := 3) (E := 54) (cs := []) rfl (by simp) (by decide) _) ?_
  refine CJ.loop (σ := Nat × Option Addr × Nat × List Value) (fun s => s.1 ≤ l.length ∧ s.2.2.2.length = s.1)
    (fun s => [(6, .int .i64 (s.1 : Int)), (5, .slice s.2.1 s.1 s.2.2.1), (1, .slice Am m.length cm), (0, .slice A1 l.length c1)])
    (fun s => cellsI l m s.1 s.2.2.2 s.2.1 s.2.2.1 ++ F) (fun s => l.length - s.1) (0, some ⟨b7, 0, none⟩, 0, []) ⟨Nat.zero_le _, rfl⟩ (by exact kEsub) (Gives.refl _) ?_
  rintro ⟨i, A, c, us⟩ ⟨hil, hus⟩
  simp only at hil hus
  refine kAutoB ?_
  cases hlt : decide ((i : Int) < (l.length : Int))
  case false =>
    have hge : i = l.length := by have := of_decide_eq_false hlt; omega
    subst hge
    refine kAutoB ?_
    refine XJ.ret1 rfl rfl (cellsM (arrC (arrNames l) m) us A c) ?_ ⟨A, c, us, rfl, hus, rfl⟩
    unfold cellsI cellsM
    rw [List.take_length, show m.take l.length = m by rw [hlm, List.take_length], arrC_len (by simp [arrNames, hlm]), arrC_l _ _ (by simp [arrNames, hlm])]
    simp only [arrNames, List.length_map]
    exact Gives.refl _
  have hlt' : i < l.length := by have := of_decide_eq_true hlt; omega
  have him' : i < m.length := by omega
  obtain ⟨ba, oa, rfl, -, hba⟩ := hA.at_ i (by simpa using hlt')
  simp only [List.getElem_map] at hba
  obtain ⟨bm, om, hAm, -, hbm⟩ := hrm.at_ i (by simpa using (by omega : i < vs.length))
  subst hAm
  simp only [List.getElem_map] at hbm
  obtain ⟨A9, c9, hv9, hc9, hr9⟩ := him i m[i] (vs[i]'(by omega)) (by simp [him']) (by simp [show i < vs.length by omega])
  rw [hv9] at hbm
  have hml := hi _ (List.getElem_mem him')
  have f0 := hba.at' 0 (oa + i * 2 + 0) rfl rfl
  refine kAutoB ?_
  refine CJ.gives (M' := row 54 3 (.slice A i c) i (List.zipWith rcRow (arrC (arrNames (l.take i)) (m.take i)) us).flatten :: (innerM us (m.take i) ++ F)) (Gives.refl _) ?_
  (refine CJ.draws mixed 15 [] (by exact kGives) (dom_of (by kernel_rfl)) ?_)
  ((first | refine kAjB 0 ?_ | refine kAjS 0 ?_); (first | refine kAjB 1 ?_ | refine kAjS 1 ?_); (first | refine kAjB 2 ?_ | refine kAjS 2 ?_))
  (apply AJ.pur (i := 3); exact rfl; exact rfl; exact rfl; exact rfl; exact rfl; exact rfl; exact rfl; exact rfl; exact rfl; (apply OpP.indexAddr; exact kEv; exact kEv; exact hlt'))
  ((first | refine kAjB 4 ?_ | refine kAjS 4 ?_); (first | refine kAjB 5 ?_ | refine kAjS 5 ?_))
  ((first | refine kAjB 7 ?_ | refine kAjS 7 ?_); (first | refine kAjB 8 ?_ | refine kAjS 8 ?_))
  (apply AJ.pur (i := 9); exact rfl; exact rfl; exact rfl; exact rfl; exact rfl; exact rfl; exact rfl; exact rfl; exact rfl; (apply OpP.indexAddr; exact kEv; exact kEv; exact him'))
  (apply AJ.pur (i := 10); exact rfl; exact rfl; exact rfl; exact rfl; exact rfl; exact rfl; exact rfl; exact rfl; exact rfl; (apply OpP.load; exact kEv; exact HasAt.base hbm))
  (refine AJ.loud1 (i := 6) (by kernel_rfl) (by kernel_rfl) rfl (by kernel_rfl) (by kernel_rfl) rfl rfl rfl rfl rfl rfl (OpS.buildSlice (E := 21) [] rfl (by exact kEvl) (fun w => by kernel_rfl)) ?_ ?_)
  rotate_left
  · rintro _ _ h; exact h.elim
  rintro _ _ ⟨b20, rfl, rfl⟩
  refine ⟨by exact kGives, ?_⟩
  refine AJ.gives' (row_of_cel (n := 0) (sz := 1) rfl (by simp) (by decide) _) (by exact kGives) ?_
  (refine AJ.loud1 (i := 11) (by kernel_rfl) (by kernel_rfl) rfl (by kernel_rfl) (by kernel_rfl) rfl rfl rfl rfl rfl rfl (OpS.append (by exact kEv) (by exact kEv) (Takes.here _ _) (fun h _ => base_src (by simp) (oneInt m[i]) hr9) (by simp only [maxLen]; omega) (by omega)) ?_ ?_)
  rotate_left
  · rintro _ _ h; exact h.elim
  rintro _ _ ⟨⟨A2, c2, rfl⟩, rfl⟩
  refine ⟨by exact kGives, ?_⟩
  ((first | refine kAjB 12 ?_ | refine kAjS 12 ?_))
  (refine AJ.loud1 (i := 13) (by kernel_rfl) (by kernel_rfl) rfl (by kernel_rfl) (by kernel_rfl) rfl rfl rfl rfl rfl rfl (OpS.buildSlice (E := 54) (rcRow ⟨l[i].name, true, m[i]⟩ (.slice A2 (0 + m[i].length) c2)) rfl (by exact kEvl) (fun w => by kernel_rfl)) ?_ ?_)
  rotate_left
  · rintro _ _ h; exact h.elim
  rintro _ _ ⟨bT, rfl, rfl⟩
  refine ⟨by exact kGives, ?_⟩
  (refine AJ.loud1 (i := 14) (by kernel_rfl) (by kernel_rfl) rfl (by kernel_rfl) (by kernel_rfl) rfl rfl rfl rfl rfl rfl (OpS.append (m := 1) (news := rcRow ⟨l[i].name, true, m[i]⟩ (.slice A2 (0 + m[i].length) c2)) (by exact kEv) (by exact kEv) (Takes.there (Takes.there (Takes.here _ _))) (fun h m => ⟨rfl, rcRow_one' _ rfl, .inr ⟨_, _, _, rfl, HasAt.pt (Takes.here _ _) atAll⟩⟩) (by show i + 1 ≤ _; simp only [maxLen]; omega) (by omega)) ?_ ?_)
  rotate_left
  · rintro _ _ h; exact h.elim
  rintro _ _ ⟨⟨A10, c10, rfl⟩, rfl⟩
  refine ⟨by exact kGives, ?_⟩
  (refine AJ.tail (by kernel_rfl) (by kernel_rfl) rfl (by kernel_rfl) (by kernel_rfl) (by kernel_rfl) ?_)
  refine kAutoB ?_
  rw [i64_succ i (by omega)]
  refine XJ.round (i + 1, A10, c10, us ++ [.slice A2 (0 + m[i].length) c2]) ⟨by simp only; omega, by simp [hus]⟩ (by simp only; omega) (by exact kEsub) ?_
  have hx : cellsI l m (i + 1) (us ++ [.slice A2 (0 + m[i].length) c2]) A10 c10 = row 54 3 (.slice A10 (i + 1) c10) (i + 1) ((List.zipWith rcRow (arrC (arrNames (l.take i)) (m.take i)) us).flatten ++ rcRow ⟨l[i].name, true, m[i]⟩ (.slice A2 (0 + m[i].length) c2)) :: (innerM us (m.take i) ++ [row 21 1 (.slice A2 (0 + m[i].length) c2) m[i].length (m[i].map intV)]) := by
    unfold cellsI
    rw [arrC_snoc l m hlt' him', List.zipWith_append (by rw [arrC_len (by simp [arrNames]; omega)]; simp [arrNames, hus]; omega), List.flatten_append, List.take_succ_eq_append_getElem him', innerM_snoc _ _ _ _ (by simp [hus]; omega)]
    simp only [List.zipWith_cons_cons, List.zipWith_nil_right, List.flatten_cons, List.flatten_nil, List.append_nil]
  simp only
  rw [hx]
  refine Gives.cons (Takes.here _ _) ?_
  refine Gives.trans (Gives.drop (Gives.refl _)) ?_
  rw [Nat.zero_add, List.nil_append]
  exact Gives.into
end Go.Proofs.YtgmapenlgammfaaGreatDoor

/- The reference's job: what it starts with. -/
namespace Go.Proofs.YtgmapenlgammfaaGreatDoor
open Go
def vs0 (l : List ByteArray) : Loc := l.map fun v => (v, 0)
theorem lookL_vs0 (l : List ByteArray) : lookL (vs0 l) = varsOf l := by
  induction l using snocRec with
  | nil => rfl
  | append_singleton r p ih =>
    have e : vs0 (r ++ [p]) = vs0 r ++ [(p, 0)] := by simp [vs0]
    rw [e, lookL_snoc, ih]
    funext j
    simp only [updI, varsOf, List.any_append, List.any_cons, List.any_nil, Bool.or_false, Bool.or_eq_true, decide_eq_true_eq]
    by_cases h : j = p
    · simp [h]
    · have h2 : ¬ p = j := fun e => h e.symm
      simp only [h, h2, if_false, or_false]
theorem ixUp_iff : ∀ (l : List ByteArray) (i : Nat) (f : ByteArray → Option Nat), l.Nodup → ∀ k j, ixUp l i f k = some j ↔ (∃ q, l[q]? = some k ∧ j = i + q) ∨ (k ∉ l ∧ f k = some j)
  | [], i, f, _, k, j => by simp [ixUp]
  | x :: r, i, f, hn, k, j => by
    have hn' := List.nodup_cons.1 hn
    rw [ixUp, ixUp_iff r (i + 1) _ hn'.2 k j]
    constructor
    · rintro (⟨q, h1, h2⟩ | ⟨h1, h2⟩)
      · exact .inl ⟨q + 1, by simpa using h1, by omega⟩
      · split at h2
        · rename_i hk; injection h2 with h2; exact .inl ⟨0, by simp [hk], by omega⟩
        · rename_i hk; exact .inr ⟨by simp [hk, h1], h2⟩
    · rintro (⟨q, h1, h2⟩ | ⟨h1, h2⟩)
      · cases q with
        | zero =>
          simp at h1
          subst h1
          exact .inr ⟨hn'.1, by simp [h2]⟩
        | succ q => exact .inl ⟨q, by simpa using h1, by omega⟩
      · simp only [List.mem_cons, not_or] at h1
        exact .inr ⟨h1.2, by rw [if_neg h1.1]; exact h2⟩
theorem jobIx_ok {C : Ctx} {p : Prg} {T : Task} (h : Chk C p T) : IxOk (arrNames T.arrays ++ arrNames p.shared) (jobIx T p) := by
  refine ⟨List.nodup_append.2 ⟨h.na, h.ns, fun a ha b hb e => (h.as_ a ha).1 (e ▸ hb)⟩, ?_⟩
  intro nm i
  have hl : (arrNames T.arrays).length = T.arrays.length := by simp [arrNames]
  unfold jobIx
  rw [ixUp_iff _ _ _ h.ns, ixUp_iff _ _ _ h.na]
  constructor
  · rintro (⟨q, h1, rfl⟩ | ⟨h0, ⟨q, h1, rfl⟩ | ⟨-, h2⟩⟩)
    · rw [List.getElem?_append_right (by omega), hl, Nat.add_sub_cancel_left]; exact h1
    · have := (List.getElem?_eq_some_iff.1 h1).1
      rw [Nat.zero_add, List.getElem?_append_left this]; exact h1
    · cases h2
  · intro h1
    by_cases hi : i < T.arrays.length
    · rw [List.getElem?_append_left (by omega)] at h1
      exact .inr ⟨(h.as_ nm (List.mem_of_getElem? h1)).1, .inl ⟨i, h1, by omega⟩⟩
    · rw [List.getElem?_append_right (by omega), hl] at h1
      exact .inl ⟨_, h1, by omega⟩
/-- Without fuel: how much is missing does not matter. -/
def DryP (f : JF) : Prop := ∀ ix inp a b s, a ≤ 0 → b ≤ 0 → f ⟨ix, inp, a⟩ s = f ⟨ix, inp, b⟩ s
theorem dry_step {ix : ByteArray → Option Nat} {inp : List Int} {a : Int} (ha : a ≤ 0) (s : JS) : stepJ ⟨ix, inp, a⟩ s = (s, some 13) := by
  unfold stepJ; rw [if_pos (by show (s.steps : Int) ≥ a; omega)]
theorem dryClosed : Closed DryP where
  no := fun ix inp a b s ha hb => rfl
  bind := fun f g hf hg ix inp a b s ha hb => by
    show bindJ (f _ s) (g _) = bindJ (f _ s) (g _)
    rw [hf ix inp a b s ha hb]
    unfold bindJ
    split
    · exact hg ix inp a b _ ha hb
    · rfl
  step := fun ix inp a b s ha hb => by rw [dry_step ha, dry_step hb]
  bound := fun ix inp a b s ha hb => rfl
  var := fun nm v _ ix inp a b s ha hb => rfl
  del := fun nm ix inp a b s ha hb => rfl
  test := fun c f g hf hg ix inp a b s ha hb => by
    show ifJ _ c (f _) (g _) s = ifJ _ c (f _) (g _) s
    unfold ifJ
    rw [show evJ ⟨ix, inp, a⟩ s c = evJ ⟨ix, inp, b⟩ s c from rfl, hf ix inp a b s ha hb, hg ix inp a b s ha hb]
  out := fun c port ix inp a b s ha hb => by
    show bindJ (stepJ _ s) _ = bindJ (stepJ _ s) _
    rw [dry_step ha, dry_step hb]; rfl
  assign := fun place c ix inp a b s ha hb => by
    show bindJ (stepJ _ s) _ = bindJ (stepJ _ s) _
    rw [dry_step ha, dry_step hb]; rfl
  inp := fun place ix inp a b s ha hb => by
    show bindJ (stepJ _ s) _ = bindJ (stepJ _ s) _
    rw [dry_step ha, dry_step hb]; rfl
/-- The fuel that the reference takes. -/
def fuel0 (f : Int) : Int := if f < 0 then 0 else f
theorem exec_fuel0 (ix : ByteArray → Option Nat) (inp : List Int) (f : Int) (n : Node) (s : JS) : execN ⟨ix, inp, fuel0 f⟩ n s = execN ⟨ix, inp, f⟩ n s := by
  unfold fuel0
  split
  · exact dryClosed.exec n ix inp 0 f s (by omega) (by omega)
  · rfl
/-- The reference's parameters in a job. -/
def parR (T : Task) (p : Prg) (Ai : Option Addr) (ci : Nat) (inp : List Int) (fuel : Int) : RPar := ⟨arrNames T.arrays ++ arrNames p.shared, Ai, inp.length, ci, fuel0 fuel⟩
theorem refF_of {w0 : World} {C : Ctx} {p : Prg} {T : Task} (h : Chk C p T) {Ai : Option Addr} {ci : Nat} {inp : List Int} {fuel : Int} {mt ms : List (List Int)} (hin : IntsR w0 (.slice Ai inp.length ci) inp) (h32 : ∀ x ∈ inp, I32 x) (hf : fuel ≤ 1000000)
    (h1 : mt.length = T.arrays.length) (h2 : ms.length = p.shared.length) (hl : T.arrays.length + p.shared.length ≤ 100) (hs : ∀ l ∈ mt ++ ms, l.length ≤ 1000000) : RefF w0 (parR T p Ai ci inp fuel) (jobE T p inp (fuel0 fuel)) C ((mt ++ ms).map List.length) where
  ix := jobIx_ok h
  inp := hin
  ni := rfl
  i32 := h32
  fu := rfl
  fuel := by show fuel0 fuel ≤ _; unfold fuel0; split <;> omega
  len := by simp [parR, arrNames]; omega
  ll := by simp [parR, arrNames]; omega
  small := by
    intro k hk
    obtain ⟨l, hl, rfl⟩ := List.mem_map.1 hk
    exact hs l hl
  ctx := by
    rintro nm (h' | h')
    · exact List.mem_append_left _ ((h.arrays nm).1 h')
    · exact List.mem_append_right _ ((h.shared nm).1 h')
theorem refI_of {C : Ctx} {p : Prg} {T : Task} (h : Chk C p T) {Ai : Option Addr} {ci : Nat} {inp : List Int} {fuel : Int} {mt ms : List (List Int)} {us : List Value} (A : Option Addr) (c : Nat) (h1 : mt.length = T.arrays.length) (h2 : ms.length = p.shared.length) (hu : us.length = T.arrays.length + p.shared.length + T.vars.length) (h32 : ∀ l ∈ mt ++ ms, ∀ x ∈ l, I32 x) :
    RefI (parR T p Ai ci inp fuel) (jobE T p inp (fuel0 fuel)) C ((mt ++ ms).map List.length) ⟨C.vars, noneB, []⟩ ⟨(job0 T mt ms, none), vs0 T.vars, us, A, c, none, 0⟩ where
  nn := rfl
  ok := by
    refine ⟨?_, h32, rfl, Nat.le_refl _, Nat.le_refl _, .inl rfl⟩
    intro nm x hx
    simp only [job0, varsOf] at hx
    split at hx
    · injection hx with hx; subst hx; exact .zero
    · cases hx
  us := by
    show us.length = (mkC (arrNames T.arrays ++ arrNames p.shared) (mt ++ ms) (vs0 T.vars)).length
    rw [mkC_len (by simp [arrNames, h1, h2]), hu]
    simp [arrNames, vs0]
  v32 := by
    intro q hq
    obtain ⟨v, -, rfl⟩ := List.mem_map.1 hq
    exact .zero
  vars := lookL_vs0 _
  sc := fun j => by
    show C.vars j = true ↔ j ∈ (vs0 T.vars).map (·.1)
    rw [h.vars j]
    simp [vs0, List.map_map, Function.comp_def]
  lp := fun j hj => .inl hj
end Go.Proofs.YtgmapenlgammfaaGreatDoor

/- The reference's job. -/
namespace Go.Proofs.YtgmapenlgammfaaGreatDoor
open Go
theorem Arrays_spec' (w0 : World) (l : List Arr) (A1 : Option Addr) (c1 : Nat) (hA : RowsB w0 2 A1 (l.map arrRow)) (v : Value) (m : List (List Int)) (hM : MatR w0 v m) (hlm : l.length = m.length) (hs : l.length ≤ 100000) (hi : ∀ x ∈ m, x.length ≤ 1000000) :
    Spec Tryz.prog w0 54 #[.slice A1 l.length c1, v] [] (Ret (fun v' N => ∃ A c us, v' = .slice A l.length c ∧ us.length = l.length ∧ N = row 54 3 (.slice A l.length c) l.length (List.zipWith rcRow (arrC (arrNames l) m) us).flatten :: innerM us m) noP) := by
  refine (Arrays_spec w0 l A1 c1 hA v m hM hlm hs hi).ret ?_
  rintro v' N ⟨A, c, us, rfl, hus, rfl⟩
  refine ⟨A, c, us, rfl, hus, ?_⟩
  unfold cellsM
  rw [arrC_len (by simp [arrNames, hlm]), arrC_l _ _ (by simp [arrNames, hlm])]
  simp only [arrNames, List.length_map]
/-- The state before the variable i is made. -/
def tI (T : Task) (mt ms : List (List Int)) (i : Nat) (us : List Value) (A : Option Addr) (c : Nat) : RSt := ⟨(job0 T mt ms, none), vs0 (T.vars.take i), us, A, c, none, 0⟩
theorem rJob_spec (w0 : World) {p : Prg} {cs : List Value} (hP : PrgR w0 p cs) (t : Nat) (ht : t < p.tasks.length) {T : Task} (hT : p.tasks[t] = T) {C : Ctx} (hC : Chk C p T) (vt vS : Value) (mt ms : List (List Int)) (hvt : MatR w0 vt mt) (hvS : MatR w0 vS ms) (h1 : mt.length = T.arrays.length) (h2 : ms.length = p.shared.length) (hl : T.arrays.length + p.shared.length ≤ 100)
    (h32 : ∀ l ∈ mt ++ ms, ∀ x ∈ l, I32 x) (hs : ∀ l ∈ mt ++ ms, l.length ≤ 1000000) (hz : T.vars.length + T.body.size ≤ 5000) (Ai : Option Addr) (ci : Nat) (inp : List Int) (hin : IntsR w0 (.slice Ai inp.length ci) inp) (hi32 : ∀ x ∈ inp, I32 x) (fuel : Int) (hf : fuel ≤ 1000000) :
    Spec Tryz.prog w0 21 #[.agg cs.toArray, .int .i64 (t : Int), vt, vS, .slice Ai inp.length ci, .int .i64 fuel] [] (Ret (RRes (parR T p Ai ci inp fuel) (execN (jobE T p inp fuel) T.body (job0 T mt ms)) (vs0 T.vars)) noP) := by
  have hF := refF_of hC hin hi32 hf h1 h2 hl hs
  obtain ⟨A1, c1, A2, c2, rfl, hc1, hc2, hr1, hr2⟩ := hP.ex
  obtain ⟨bt, ot, rt, hA2, hbt, hrt, hrtR⟩ := hr2.at_ t ht
  subst hA2
  rw [hT] at hrtR
  obtain ⟨A5, c5, A6, c6, bs, rfl, g1, g2, g3, g4, g5⟩ := hrtR.ex
  have hbody := g5
  obtain ⟨A7, c7, rfl, g6, _⟩ := g5.kids
  have hA := Arrays_spec' w0 T.arrays A6 c6 g4 vt mt hvt h1.symm (by omega) (fun x hx => hs x (List.mem_append_left _ hx))
  have hS := Arrays_spec' w0 p.shared A1 c1 hr1 vS ms hvS h2.symm (by omega) (fun x hx => hs x (List.mem_append_right _ hx))
  refine Spec.enter (args := [_, _, _, _, _, _]) Tryz.func21 rfl rfl rfl (fun F => ?_)
  refine kAutoB ?_
  (apply RL.boxR; exact kEv; exact rfl; intro b6)
  (apply RL.alloc; exact rfl; exact rfl; intro b12)
  refine kAutoB ?_
  apply RL.pur; (apply OpP.indexAddr; exact kEv; exact kEv; exact ht); exact rfl
  apply RL.pur; (apply OpP.loadA; exact kEv; exact HasAt.base hbt; exact hrt); exact rfl
  (apply RL.alloc; exact rfl; exact rfl; intro b13)
  refine kAutoB ?_
  (apply RL.storeW; exact kEv; exact kEv; exact kTake; exact rfl; exact rfl; exact rfl)
  refine kAutoB ?_
  (refine CJ.draws mixed 10 [rcel b6 _ _, cel b13 _ _] (by exact kGives) (dom_of (by kernel_rfl)) ?_)
  ((first | refine kAjB 0 ?_ | refine kAjS 0 ?_); (first | refine kAjB 1 ?_ | refine kAjS 1 ?_); (first | refine kAjB 2 ?_ | refine kAjS 2 ?_))
  ((first | refine kAjB 4 ?_ | refine kAjS 4 ?_); (first | refine kAjB 5 ?_ | refine kAjS 5 ?_); (first | refine kAjB 6 ?_ | refine kAjS 6 ?_))
  (refine AJ.loud1 (i := 3) (by kernel_rfl) (by kernel_rfl) rfl (by kernel_rfl) (by kernel_rfl) rfl rfl rfl rfl rfl rfl (OpS.call (by exact kEv) inferInstance (by exact kEvl) (Takes.nil _) hA) ?_ ?_)
  rotate_left
  · rintro _ _ ⟨_, h, _⟩; exact h.elim
  rintro _ _ ⟨N, ⟨B1, d1, us1, rfl, hus1, rfl⟩, rfl⟩
  refine ⟨Gives.skipApp (by exact kGives), ?_⟩
  (refine AJ.loud1 (i := 7) (by kernel_rfl) (by kernel_rfl) rfl (by kernel_rfl) (by kernel_rfl) rfl rfl rfl rfl rfl rfl (OpS.call (by exact kEv) inferInstance (by exact kEvl) (Takes.nil _) hS) ?_ ?_)
  rotate_left
  · rintro _ _ ⟨_, h, _⟩; exact h.elim
  rintro _ _ ⟨N, ⟨B2, d2, us2, rfl, hus2, rfl⟩, rfl⟩
  refine ⟨Gives.skipApp (Gives.skipApp (by exact kGives)), ?_⟩
  (refine AJ.loud1 (i := 8) (by kernel_rfl) (by kernel_rfl) rfl (by kernel_rfl) (by kernel_rfl) rfl rfl rfl rfl rfl rfl (OpS.append (m := p.shared.length) (news := (List.zipWith rcRow (arrC (arrNames p.shared) ms) us2).flatten) (by exact kEv) (by exact kEv) (Takes.appR _ (Takes.here _ _)) (fun h m => row_src (w := w0) (Takes.here _ _) m) (by show T.arrays.length + p.shared.length ≤ _; simp only [maxLen]; omega) (by show (T.arrays.length + p.shared.length) * _ ≤ _; omega)) ?_ ?_)
  rotate_left
  · rintro _ _ h; exact h.elim
  rintro _ _ ⟨⟨A3, c3, rfl⟩, rfl⟩
  refine ⟨Gives.drop (Gives.skipApp (Gives.skipApp (by exact kGives))), ?_⟩
  ((first | refine kAjB 9 ?_ | refine kAjS 9 ?_))
  (refine AJ.done (by kernel_rfl) (by kernel_rfl) rfl (by kernel_rfl) ?_)
  refine kAutoB ?_
  have hlen : ∀ i us A c, i ≤ T.vars.length → ((tI T mt ms i us A c).cells (parR T p Ai ci inp fuel)).length = T.arrays.length + p.shared.length + i := by
    intro i us A c hi
    unfold RSt.cells
    rw [mkC_len (by simp [parR, arrNames, tI, job0, h1, h2])]
    simp [parR, arrNames, tI, vs0, hi]
  have hm0 : ∀ i us A c, i ≤ T.vars.length → (tI T mt ms i us A c).m (parR T p Ai ci inp fuel) = row 106 2 (.slice none 0 0) 0 [] :: row 54 3 (.slice A (T.arrays.length + p.shared.length + i) c) (T.arrays.length + p.shared.length + i) (List.zipWith rcRow ((tI T mt ms i us A c).cells (parR T p Ai ci inp fuel)) us).flatten :: innerM us (((tI T mt ms i us A c).cells (parR T p Ai ci inp fuel)).map RC.l) := by
    intro i us A c hi
    unfold RSt.m cellsM
    rw [hlen i us A c hi]
    rfl
  have hc0 : (tI T mt ms 0 (us1 ++ us2) A3 c3).cells (parR T p Ai ci inp fuel) = arrC (arrNames T.arrays) mt ++ arrC (arrNames p.shared) ms := by
    unfold RSt.cells mkC tI parR job0 vs0 arrC
    rw [List.zipWith_append (by simp [arrNames, h1])]
    simp [locC]
  refine CJ.gives (M' := cel b13 52 [.string T.name, .int .i64 T.period, .slice A5 T.vars.length c5, .slice A6 T.arrays.length c6, .int .u8 T.body.kind, .int .i64 T.body.num, .string T.body.name, .slice A7 T.body.kids.length c7] :: cel b12 45 zeroE :: rcel b6 25 [.slice A1 p.shared.length c1, .slice (some ⟨bt, ot, none⟩) p.tasks.length c2] :: ((tI T mt ms 0 (us1 ++ us2) A3 c3).m (parR T p Ai ci inp fuel) ++ F)) ?_ ?_
  · rw [hm0 0 _ _ _ (Nat.zero_le _), hc0, List.zipWith_append (by simp [arrC_len, arrNames, h1, hus1]), List.flatten_append, List.map_append, arrC_l _ _ (by simp [arrNames, h1]), arrC_l _ _ (by simp [arrNames, h2]), innerM_append _ _ _ _ (by omega)]
    refine Gives.trans (Gives.cons (Takes.there (Takes.there (Takes.appR (innerM us2 ms) (Takes.appR (innerM us1 mt) (Takes.here _ _))))) (Gives.cons (Takes.there (Takes.there (Takes.appR (innerM us2 ms) (Takes.appR (innerM us1 mt) (Takes.here _ _))))) (Gives.cons (Takes.there (Takes.there (Takes.appR (innerM us2 ms) (Takes.appR (innerM us1 mt) (Takes.here _ _))))) (Gives.refl _)))) ?_
    refine Gives.cons (Takes.here _ _) (Gives.cons (Takes.here _ _) (Gives.cons (Takes.here _ _) ?_))
    exact Gives.trans (row_nil 106 2) (Gives.cons (Takes.here _ _) (Gives.cons (Takes.here _ _) (Gives.drop Gives.swapApp)))
  refine CJ.env (L' := [(15, .int .i64 0), (14, .slice A3 (T.arrays.length + p.shared.length) c3), (13, .pointer (some ⟨b13, 0, none⟩)), (12, .pointer (some ⟨b12, 0, none⟩)), (5, .int .i64 fuel), (4, .slice Ai inp.length ci)]) (by exact kEsub) ?_
  refine CJ.loop (σ := Nat × Option Addr × Nat × List Value) (fun s => s.1 ≤ T.vars.length ∧ s.2.2.2.length = T.arrays.length + p.shared.length + s.1)
    (fun s => [(15, .int .i64 (s.1 : Int)), (14, .slice s.2.1 (T.arrays.length + p.shared.length + s.1) s.2.2.1), (13, .pointer (some ⟨b13, 0, none⟩)), (12, .pointer (some ⟨b12, 0, none⟩)), (5, .int .i64 fuel), (4, .slice Ai inp.length ci)])
    (fun s => cel b13 52 [.string T.name, .int .i64 T.period, .slice A5 T.vars.length c5, .slice A6 T.arrays.length c6, .int .u8 T.body.kind, .int .i64 T.body.num, .string T.body.name, .slice A7 T.body.kids.length c7] :: cel b12 45 zeroE :: rcel b6 25 [.slice A1 p.shared.length c1, .slice (some ⟨bt, ot, none⟩) p.tasks.length c2] :: ((tI T mt ms s.1 s.2.2.2 s.2.1 s.2.2.1).m (parR T p Ai ci inp fuel) ++ F))
    (fun s => T.vars.length - s.1) (0, A3, c3, us1 ++ us2) ⟨Nat.zero_le _, by simp [hus1, hus2]⟩ (by exact kEsub) (Gives.refl _) ?_
  rintro ⟨i, A, c, us⟩ ⟨hi, hus⟩
  simp only at hi hus
  refine kAutoB ?_
  cases hlt : decide ((i : Int) < (T.vars.length : Int))
  case true =>
    have hlt' : i < T.vars.length := by have := of_decide_eq_true hlt; omega
    obtain ⟨bv, ov, rfl, -, hbv⟩ := g3.at_ i (by simpa using hlt')
    simp only [List.getElem_map, strRow] at hbv
    refine kAutoB ?_
    apply RL.pur; (apply OpP.indexAddr; exact kEv; exact kEv; exact hlt'); exact rfl
    apply RL.pur; (apply OpP.load; exact kEv; exact HasAt.base hbv); exact rfl
    refine RL.bsl [.int .i32 0] rfl (by exact kEvl) (fun w => by kernel_rfl) rfl (fun bS => ?_)
    apply RL.pur; (exact OpP.build (r := .agg (rcRow ⟨T.vars[i], false, [0]⟩ (.slice (some ⟨bS, 0, none⟩) 1 1)).toArray) (by exact kEvl) rfl (fun w => by kernel_rfl)); exact rfl
    refine RL.bsl (rcRow ⟨T.vars[i], false, [0]⟩ (.slice (some ⟨bS, 0, none⟩) 1 1)) rfl (by exact kEvl) (fun w => by kernel_rfl) rfl (fun bT => ?_)
    refine RL.gives (M' := cel bT 54 (rcRow ⟨T.vars[i], false, [0]⟩ (.slice (some ⟨bS, 0, none⟩) 1 1)) :: cel bS 21 [.int .i32 0] :: cel b13 52 [.string T.name, .int .i64 T.period, .slice (some ⟨bv, ov, none⟩) T.vars.length c5, .slice A6 T.arrays.length c6, .int .u8 T.body.kind, .int .i64 T.body.num, .string T.body.name, .slice A7 T.body.kids.length c7] :: cel b12 45 zeroE :: rcel b6 25 [.slice A1 p.shared.length c1, .slice (some ⟨bt, ot, none⟩) p.tasks.length c2] :: row 106 2 (.slice none 0 0) 0 [] :: row 54 3 (.slice A (T.arrays.length + p.shared.length + i) c) (T.arrays.length + p.shared.length + i) (List.zipWith rcRow ((tI T mt ms i us A c).cells (parR T p Ai ci inp fuel)) us).flatten :: (innerM us (((tI T mt ms i us A c).cells (parR T p Ai ci inp fuel)).map RC.l) ++ F)) (by rw [hm0 i us A c hi]; exact Gives.refl _) ?_
    refine RL.append (by exact kEv) (by exact kEv) (Takes.there (Takes.there (Takes.there (Takes.there (Takes.there (Takes.there (Takes.here _ _))))))) (m := 1) (news := rcRow ⟨T.vars[i], false, [0]⟩ (.slice (some ⟨bS, 0, none⟩) 1 1)) (fun h _ => ⟨rfl, rcRow_one' _ rfl, .inr ⟨_, _, _, rfl, HasAt.pt (Takes.here _ _) atAll⟩⟩) (by show T.arrays.length + p.shared.length + i + 1 ≤ _; simp only [maxLen]; omega) (by show (T.arrays.length + p.shared.length + i + 1) * _ ≤ _; omega) rfl (fun A9 c9 => ?_)
    refine kAutoB ?_
    rw [i64_succ i (by omega)]
    have hmm := more_m (tI T mt ms i us A c) (parR T p Ai ci inp fuel) T.vars[i] 0 (.slice (some ⟨bS, 0, none⟩) 1 1) A9 c9 (by rw [hlen i us A c hi]; exact hus) F
    rw [hlen i us A c hi] at hmm
    have hme : (tI T mt ms (i + 1) (us ++ [.slice (some ⟨bS, 0, none⟩) 1 1]) A9 c9).m (parR T p Ai ci inp fuel) = ((tI T mt ms i us A c).more T.vars[i] 0 (.slice (some ⟨bS, 0, none⟩) 1 1) A9 c9).m (parR T p Ai ci inp fuel) := by
      unfold tI
      rw [List.take_succ_eq_append_getElem hlt', show vs0 (T.vars.take i ++ [T.vars[i]]) = vs0 (T.vars.take i) ++ [(T.vars[i], 0)] by unfold vs0; rw [List.map_append]; rfl]
      rfl
    refine XJ.round (i + 1, A9, c9, us ++ [.slice (some ⟨bS, 0, none⟩) 1 1]) ⟨by simp only; omega, (by simp only [List.length_append, List.length_singleton, hus]; omega)⟩ (by simp only; omega) (by exact kEsub) ?_
    simp only
    rw [hme]
    refine Gives.cons (by exact kTake) (Gives.cons (by exact kTake) (Gives.cons (by exact kTake) ?_))
    refine Gives.trans ?_ hmm
    refine Gives.cons (by exact kTake) ?_
    refine Gives.trans (Gives.cons (Takes.there (Takes.here _ _)) (Gives.refl _)) ?_
    refine Gives.trans (row_of_cel (sz := 1) (n := 1) rfl (by simp [Value.oneCell']) (by decide) _) ?_
    exact Gives.cons (Takes.here _ _) (Gives.cons (Takes.there (Takes.here _ _)) (Gives.drop (Gives.refl _)))
  have hge : i = T.vars.length := by have := of_decide_eq_false hlt; omega
  subst hge
  refine kAutoB ?_
  obtain ⟨t0, ht0⟩ : ∃ t0 : RSt, t0 = ⟨(job0 T mt ms, none), vs0 T.vars, us, A, c, none, 0⟩ := ⟨_, rfl⟩
  have hti : tI T mt ms T.vars.length us A c = t0 := by rw [ht0]; unfold tI; rw [List.take_length]
  have hl0 := hlen T.vars.length us A c (Nat.le_refl _)
  have hI0 : RefI (parR T p Ai ci inp fuel) (jobE T p inp (fuel0 fuel)) C ((mt ++ ms).map List.length) ⟨C.vars, noneB, []⟩ t0 := by
    rw [ht0]; exact refI_of hC A c h1 h2 hus h32
  have hv0 : t0.v (parR T p Ai ci inp fuel) = [.slice A (T.arrays.length + p.shared.length + T.vars.length) c, .slice Ai inp.length ci, .slice none 0 0, .int .i64 0, .int .i64 0, .int .i64 (fuel0 fuel), .int .i64 0] := by
    unfold RSt.v
    rw [← hti, hl0]
    rfl
  rw [hti]
  obtain ⟨num, nm, l, hTb, h4, hws⟩ := hC.ws
  have hB8 : isB T.body 8 = true := by
    have := hC.task
    unfold taskB at this
    simp only [Bool.and_eq_true] at this
    exact this.2.1.1.1
  have hblk := rblock_all hF ⟨C.vars, noneB, []⟩ num nm l (hTb ▸ hB8) hws (fun j hj => .inl hj) t0 _ hI0 (hTb ▸ hbody) (by rw [ht0, ← hTb]; show (vs0 T.vars).length + _ ≤ _; simp only [vs0, List.length_map]; omega)
  have hres : seqJ (l.map (execN (jobE T p inp (fuel0 fuel)))) t0.r.1 = execN (jobE T p inp fuel) T.body (job0 T mt ms) := by
    rw [← exec_block _ num nm, ← hTb, ht0]
    exact exec_fuel0 _ _ _ _ _
  rw [← hTb] at hblk
  rw [hres, show t0.vs = vs0 T.vars by rw [ht0]] at hblk
  refine CJ.cut (σ := Unit) (fun _ => True) (fun _ => [(14, .slice A (T.arrays.length + p.shared.length + T.vars.length) c), (13, .pointer (some ⟨b13, 0, none⟩)), (12, .pointer (some ⟨b12, 0, none⟩)), (5, .int .i64 (fuel0 fuel)), (4, .slice Ai inp.length ci)])
    (fun _ => cel b13 52 [.string T.name, .int .i64 T.period, .slice A5 T.vars.length c5, .slice A6 T.arrays.length c6, .int .u8 T.body.kind, .int .i64 T.body.num, .string T.body.name, .slice A7 T.body.kids.length c7] :: cel b12 45 zeroE :: rcel b6 25 [.slice A1 p.shared.length c1, .slice (some ⟨bt, ot, none⟩) p.tasks.length c2] :: (t0.m (parR T p Ai ci inp fuel) ++ F)) ?_ ?_
  · cases hneg : decide (fuel < 0)
    · have hneg' := of_decide_eq_false hneg
      have e : fuel0 fuel = fuel := if_neg hneg'
      rw [e]
      refine kAutoB ?_
      exact XJ.meet () trivial (by exact kEsub) (Gives.refl _)
    · have hneg' := of_decide_eq_true hneg
      have e : fuel0 fuel = 0 := if_pos hneg'
      rw [e]
      refine kAutoB ?_
      exact XJ.meet () trivial (by exact kEsub) (Gives.refl _)
  rintro - -
  refine kAutoB ?_
  --DBG
  apply RL.pur; (exact OpP.build (r := .agg (t0.v (parR T p Ai ci inp fuel)).toArray) (by exact kEvl) rfl (fun w => by rw [hv0]; kernel_rfl)); exact rfl
  (apply RL.callK; exact kEv; exact inferInstance; exact kEvl; rotate_left; exact hblk; rotate_right; exact Takes.there1 (Takes.there1 (Takes.there1 (Takes.app _ _))); exact rfl)
  rintro _ _ ⟨q, he2, hq, rfl, rfl⟩
  refine kAutoB ?_
  refine RL.s0 (OpS.storeA (q := 7) kEv kEv (by exact rfl) (vOne _ q) (Takes.appR _ (Takes.there (Takes.here _ _))) (by exact Nat.le_refl 7)) ?_ (fun _ _ h => h.elim)
  rintro _ _ rfl
  refine kAutoB ?_
  exact XJ.retC rfl rfl (HasAt.pt (Takes.here _ _) atAll) rfl (q.m _) (Gives.drop (Gives.dropMid (B := [_, _]))) ⟨q, he2, hq, rfl, rfl⟩
end Go.Proofs.YtgmapenlgammfaaGreatDoor
