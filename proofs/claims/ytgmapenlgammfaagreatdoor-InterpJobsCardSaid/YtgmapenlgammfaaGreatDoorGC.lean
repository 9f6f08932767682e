import Derived.Test.YtgmapenlgammfaaGreatDoorGB
import Derived.Laws.MakeOwn
set_option linter.all false
/- The package check: the walk over a tree. -/
namespace Go.Proofs.YtgmapenlgammfaaGreatDoor
open Go
section
attribute [local semireducible] CJ XJ Takes Gives rmp rrow pt Base
variable {P : Program} {w0 : World} {n : Nat} {Q : Exit → Act → World → Prop} {L : Env} {M : List HProp}
theorem OpS.callO {d : Option Tmp} {T : TypeId} {p : String} {af : Array Edge} {g : Option (Nat × Bool)} {f : Operand} {k : FuncId} {args : Array Value} {first cap : List Value} {xs : List Operand} {vs : List Value} {ts : Array TypeId} {K : Value → List HProp → Prop} {KP : List PanicEntry → List HProp → Prop} {pre M' : List HProp}
    (hs : Spec P w0 k args pre (Ret K KP)) (hf : Ev L f (.func (.func k) first.toArray cap.toArray)) (c : CallT P k) (hx : EvL L xs vs) (ha : args = (first ++ vs ++ cap).toArray) (hm : Takes M pre M') :
    OpS P w0 L M ⟨d, .call { callee := .value f, args := xs.toArray, argTypes := ts }, T, p, af, g⟩ (fun v N => ∃ N', K v N' ∧ N = N' ++ M') (fun c N => ∃ N', KP c N' ∧ N = N' ++ M') := by
  subst ha
  exact OpS.call hf c hx hm hs
theorem CJ.seqI {σ : Type} {x y : Code} (C : σ → Prop) (Lf : σ → Env) (Mf : σ → List HProp) (kx : CJ P w0 n x (Exit.then (fun a w => ∃ s, C s ∧ ∃ h, St n (Lf s) a ∧ star (Mf s) h ∧ Sat w0 w h) Q) L M) (ky : ∀ s, C s → CJ P w0 n y Q (Lf s) (Mf s)) : CJ P w0 n (.seq x y) Q L M := fun a w h s m t => by
  refine wp_seq (wp_mono (kx a w h s m t) ?_)
  intro e a w q
  cases e with
  | normal => obtain ⟨s, hs, h, h1, h2, h3⟩ := q; exact ky s hs a w h h1 h2 h3
  | _ => exact q
theorem CJ.cut {σ : Type} {x y : Code} (C : σ → Prop) (Lf : σ → Env) (Mf : σ → List HProp) (kx : CJ P w0 n x (Exit.then (fun a w => ∃ s, C s ∧ ∃ h, St n (Lf s) a ∧ star (Mf s) h ∧ Sat w0 w h) Q) L M) (ky : ∀ s, C s → CJ P w0 n y Q (Lf s) (Mf s)) : CJ P w0 n x (Exit.then (fun a w => y.wp P Q a w) Q) L M := fun a w h s m t => by
  refine wp_mono (kx a w h s m t) ?_
  intro e a w q
  cases e with
  | normal => obtain ⟨s, hs, h, h1, h2, h3⟩ := q; exact ky s hs a w h h1 h2 h3
  | _ => exact q
theorem XJ.meet {σ : Type} {C : σ → Prop} {Lf : σ → Env} {Mf : σ → List HProp} (s : σ) (hC : C s) (hL : ∀ t v, (Lf s).get t = some v → L.get t = some v) (hM : Gives M (Mf s)) :
    XJ w0 n .normal (Exit.then (fun a w => ∃ s, C s ∧ ∃ h, St n (Lf s) a ∧ star (Mf s) h ∧ Sat w0 w h) Q) L M := fun a w h st m t => ⟨s, hC, h, st.sub hL, hM h m, t⟩
theorem Spec.frz {f : FuncId} {args : Array Value} {A B : HProp} {pre : List HProp} {R : Ending → List HProp → Prop} (z : Frz A B) (k : Spec P w0 f args (B :: pre) R) : Spec P w0 f args (A :: pre) R := by
  unfold Spec at *
  intro F w h m t
  obtain ⟨h', m', t'⟩ := z.star t m
  exact k F w h' m' t'
theorem AJ.fact {ops : Array Oper} {Mro : List HProp} {k : Nat} {D : List Nat} {p : Prop} (f : ∀ h, star M h → p) (kk : p → AJ P w0 n ops Q Mro k D L M) : AJ P w0 n ops Q Mro k D L M := fun g fuel Z listed a w h r hp m s hc => kk (f h m) g fuel Z listed a w h r hp m s hc
theorem XJ.fact {e : Exit} {p : Prop} (f : ∀ h, star M h → p) (k : p → XJ w0 n e Q L M) : XJ w0 n e Q L M := fun a w h s m t => k (f h m) a w h s m t
attribute [local semireducible] row in
theorem row_cap {E sz n c : Nat} {A : Option Addr} {xs : List Value} {M M' : List HProp} {h : Frag} (t : Takes M [row E sz (.slice A n c) n xs] M') (m : star M h) : n ≤ c := by
  obtain ⟨h1, h2, l1, l2, dd, ⟨e1, e2, e3⟩, m2⟩ := t h m
  rcases e3 with ⟨e, e'⟩ | ⟨g, cap, cur, e, a, hc, _⟩
  · omega
  · simp only [Value.slice.injEq, true_and] at e
    obtain ⟨rfl, rfl⟩ := e
    exact hc
theorem Src.clip {w0 : World} {M : List HProp} {sz n c : Nat} {A : Option Addr} {xs : List Value} (h : Src w0 M sz (.slice A n c) n xs) : Src w0 M sz (.slice A n n) n xs := by
  obtain ⟨h1, h2, h3⟩ := h
  refine ⟨h1, h2, ?_⟩
  rcases h3 with ⟨e', A', c'', e⟩ | ⟨b, o, c', e, hh⟩
  · subst e'
    exact .inl ⟨rfl, _, _, rfl⟩
  · simp only [Value.slice.injEq, true_and] at e
    obtain ⟨rfl, _⟩ := e
    exact .inr ⟨b, o, _, rfl, hh⟩
theorem cel_base {w0 w : World} {h : Frag} {M M' : List HProp} {b T : Nat} {cs : List Value} (t : Takes M [cel b T cs] M') (m : star M h) (s : Sat w0 w h) : Base w b 0 cs := fun j v hv => HasAt.heap (s.pt (t h m)) atAll j v hv
theorem rmp_mapB {w0 w : World} {h : Frag} {M M' : List HProp} {κ : Type} [DecidableEq κ] {enc : κ → Value} {r : Nat} {m : κ → Option Value} (t : Takes M [rmp enc r m] M') (mm : star M h) (s : Sat w0 w h) : MapB w enc r m := by
  obtain ⟨h1, h2, l1, l2, dd, ⟨es, clk, a, mi⟩, m2⟩ := t h mm
  exact ⟨es, clk, (s.own r _ (l1 r _ a)).2, mi⟩
theorem rrow_rows {w0 w : World} {h : Frag} {M M' : List HProp} {E n c : Nat} {A : Option Addr} {xs : List Value} (t : Takes M [rrow E 1 (.slice A n c) n xs] M') (mm : star M h) (s : Sat w0 w h) : RowsB w 1 A (xs.map fun u => [u]) := by
  have tt := t h mm
  obtain ⟨h1, h2, l1, l2, dd, ⟨e1, e2, e3⟩, m2⟩ := tt
  intro i r e
  rw [List.getElem?_map] at e
  obtain ⟨v, hv, rfl⟩ := Option.map_eq_some_iff.1 e
  rcases e3 with ⟨e, e'⟩ | ⟨g, cap, cur, e, a, _, _, hc, ht⟩
  · subst e'
    have : xs = [] := List.eq_nil_of_length_eq_zero (by simpa using e1)
    subst this
    simp at hv
  · simp only [Value.slice.injEq, true_and] at e
    obtain ⟨rfl, rfl⟩ := e
    refine ⟨g, 0, rfl, rfl, ?_⟩
    have hb := (s.own _ _ (l1 _ _ a)).2
    intro j u hu
    rcases j with _ | j
    · simp at hu
      subst hu
      have hi : i < n * 1 := by
        rcases Nat.lt_or_ge i (n * 1) with x | x
        · exact x
        · rw [List.getElem?_eq_none (by omega)] at hv; cases hv
      rw [← ht, List.getElem?_take_of_lt hi] at hv
      have := HasAt.heap (o := 0) (vs := cur) hb atAll i v hv
      simpa using this
    · simp at hu
end
def scopeOf (S : Scope) (k : Int) (name : ByteArray) : Scope :=
  if k = 42 then ⟨fun j => decide (j = name) || S.scalars j, fun j => decide (j = name) || S.loops j, S.held⟩
  else if k = 46 then { S with held := S.held ++ [name] } else S
mutual
/-- The number of faults that the walk adds. -/
def visitN (C : Ctx) : Node → Bool → Scope → Nat
  | .mk k _ s kids, place, S => (if faultE C S k s place = 0 then 0 else 1) + visitK C kids (k == 40 || k == 44) (scopeOf S k s)
def visitK (C : Ctx) : List Node → Bool → Scope → Nat
  | [], _, _ => 0
  | n :: r, t, S => visitN C n t S + visitK C r false S
end
theorem visit_le (C : Ctx) : ∀ n t S, visitN C n t S ≤ n.size := by
  intro n
  induction n using Node.rec (motive_2 := fun l => ∀ t S, visitK C l t S ≤ Node.sizeAll l) with
  | mk k num s kids ih =>
    intro t S
    have := ih (k == 40 || k == 44) (scopeOf S k s)
    rw [visitN, Node.size]
    split <;> omega
  | nil => simp [visitK, Node.sizeAll]
  | cons n r h1 h2 =>
    rename_i t S
    have := h1 t S
    have := h2 false S
    rw [visitK, Node.sizeAll]
    omega
/-- The checker's memory. -/
abbrev ckM (bc : Nat) (task : Int) (rv ra rs : Nat) (Ao : Option Addr) (k co : Nat) (xs : List Value) : List HProp :=
  [cel bc 166 [.int .i64 task, .map (some rv), .map (some ra), .map (some rs), .slice Ao k co], row 212 4 (.slice Ao k co) k xs]
abbrev setsM (C : Ctx) (rv ra rs : Nat) : List HProp := [rmp Value.string rv (setM C.vars), rmp Value.string ra (setM C.arrays), rmp Value.string rs (setM C.shared)]
abbrev scM (S : Scope) (r1 r2 : Nat) (Ah : Option Addr) (ch : Nat) : List HProp :=
  [rmp Value.string r1 (setM S.scalars), rmp Value.string r2 (setM S.loops), rrow 9 1 (.slice Ah S.held.length ch) S.held.length (S.held.map Value.string)]
theorem strRows (l : List ByteArray) : (l.map Value.string).map (fun u => [u]) = l.map strRow := by rw [List.map_map]; rfl
theorem fault_own (w0 : World) (bc : Nat) (task : Int) (rv ra rs : Nat) (vo : Value) (C : Ctx) (S : Scope) (r1 r2 : Nat) (Ah : Option Addr) (ch : Nat) (hl : S.held.length < 4611686018427387904) (k num : Int) (name : ByteArray) (kv : Value) (place : Bool) :
    Spec Tryz.prog w0 132 #[.pointer (some ⟨bc, 0, none⟩), .agg #[.int .u8 k, .int .i64 num, .string name, kv], .bool place, .agg #[.map (some r1), .map (some r2), .slice Ah S.held.length ch]]
      (cel bc 166 [.int .i64 task, .map (some rv), .map (some ra), .map (some rs), vo] :: (setsM C rv ra rs ++ scM S r1 r2 Ah ch))
      (Ret (fun v N => v = .int .i64 (faultE C S k name place) ∧ N = cel bc 166 [.int .i64 task, .map (some rv), .map (some ra), .map (some rs), vo] :: (setsM C rv ra rs ++ scM S r1 r2 Ah ch)) noP) :=
  Spec.rebaseIs fun w h m s => fault_spec w bc C S _
    ⟨task, rv, ra, rs, vo, cel_base (by exact kTake) m s, rmp_mapB (by exact kTake) m s, rmp_mapB (by exact kTake) m s, rmp_mapB (by exact kTake) m s⟩
    ⟨r1, r2, Ah, ch, rfl, rmp_mapB (by exact kTake) m s, rmp_mapB (by exact kTake) m s, strRows S.held ▸ rrow_rows (by exact kTake) m s⟩ hl k num name kv place
theorem visit_spec (w0 : World) (C : Ctx) : ∀ (m : Nat) (n : Node) (cs : List Value), n.size ≤ m → NodeR w0 n cs → n.size ≤ 10000000000 →
    ∀ (bc : Nat) (task : Int) (rv ra rs : Nat) (Ao : Option Addr) (k co : Nat) (xs : List Value) (S : Scope) (r1 r2 : Nat) (Ah : Option Addr) (ch : Nat) (Ap : Option Addr) (np cp : Nat) (ps : List Value) (place : Bool),
      k + n.size ≤ 100000000000 → np + n.size ≤ 100000000000 → S.held.length + n.size ≤ 100000000000 → np ≤ cp → S.held.length ≤ ch →
    Spec Tryz.prog w0 90 #[.pointer (some ⟨bc, 0, none⟩), .agg cs.toArray, .slice Ap np cp, .bool place, .agg #[.map (some r1), .map (some r2), .slice Ah S.held.length ch]]
      (rrow 3 1 (.slice Ap np cp) np ps :: (ckM bc task rv ra rs Ao k co xs ++ (setsM C rv ra rs ++ scM S r1 r2 Ah ch)))
      (Ret (fun v N => v = .tuple #[] ∧ ∃ A' c' xs', N = ckM bc task rv ra rs A' (k + visitN C n place S) c' xs') noP) := by
  intro m
  induction m with
  | zero => intro n cs h; have := n.size_pos; omega
  | succ m ih =>
    intro n cs hm hR hn bc task rv ra rs Ao k co xs S r1 r2 Ah ch Ap np cp ps place hk hnp hh hcp hch
    obtain ⟨A, cap, rfl, hcap, hN⟩ := hR.kids
    obtain ⟨kd, num, nm, kids⟩ := n
    simp only [Node.kind, Node.num, Node.name, Node.kids] at *
    have hkl : kids.length < 10000000000 := by have := Node.kids_le (.mk kd num nm kids); simp only [Node.kids] at this; omega
    have hsz := Node.size_eq (.mk kd num nm kids)
    simp only [Node.kids] at hsz
    refine Spec.enter (args := [_, _, _, _, _]) Tryz.func90 rfl rfl rfl (fun F => ?_)
    refine kAuto ?_
    (apply RL.boxR; exact kEv; exact rfl; intro b6)
    (apply RL.box; exact kEv; exact rfl; intro b9)
    refine kAuto ?_
    (apply RL.callK; exact kEv; exact inferInstance; exact kEvl; rotate_left; exact (fault_own w0 bc task rv ra rs (.slice Ao k co) C S r1 r2 Ah ch (by omega) kd num nm _ place); rotate_right; exact (by (repeat (first | exact Takes.nil _ | (apply Takes.cons; (repeat (first | exact Takes.pers Pers.rmp | exact Takes.pers Pers.rrow | exact Takes.ro | exact Takes.here _ _ | apply Takes.there)))))); exact rfl)
    rintro _ _ ⟨rfl, rfl⟩
    (repeat (first | (apply RL.pur; exact kPure; exact rfl) | (refine RL.guardT rfl rfl ?_) | (refine RL.guardF rfl rfl rfl rfl ?_) | (refine RL.guardU rfl rfl rfl ?_) | refine RL.nil ?_))
    refine XJ.next ?_
    refine CJ.cut (σ := Option Addr × Nat × Nat × List Value) (fun s => s.2.1 = k + (if faultE C S kd nm place = 0 then 0 else 1)) (fun _ => [(0, .pointer (some ⟨bc, 0, none⟩)), (2, .slice Ap np cp), (6, .pointer (some ⟨b6, 0, none⟩)), (9, .pointer (some ⟨b9, 0, none⟩))])
      (fun s => cel b9 172 [.map (some r1), .map (some r2), .slice Ah S.held.length ch] :: rcel b6 50 [.int .u8 kd, .int .i64 num, .string nm, .slice A kids.length cap] :: (rrow 3 1 (.slice Ap np cp) np ps :: (ckM bc task rv ra rs s.1 s.2.1 s.2.2.1 s.2.2.2 ++ (setsM C rv ra rs ++ (scM S r1 r2 Ah ch ++ F))))) ?_ ?_
    · refine kAuto ?_
      cases hf : (faultE C S kd nm place != 0)
      · have hf' : faultE C S kd nm place = 0 := by simpa using hf
        refine kAuto ?_
        refine XJ.meet (Ao, k, co, xs) ?_ (by exact kEsub) (by exact kGives)
        simp [hf']
      · have hf' : ¬ faultE C S kd nm place = 0 := by simpa using hf
        refine kAuto ?_
        (apply RL.callK; exact kEv; exact inferInstance; exact kEvl; rotate_left; exact (add_spec w0 bc task (.map (some rv)) (.map (some ra)) (.map (some rs)) Ao k co xs Ap np cp ps (faultE C S kd nm place) nm (by omega) (by omega)); rotate_right; exact (by (repeat (first | exact Takes.nil _ | (apply Takes.cons; (repeat (first | exact Takes.pers Pers.rmp | exact Takes.pers Pers.rrow | exact Takes.ro | exact Takes.here _ _ | apply Takes.there)))))); exact rfl)
        rintro _ _ ⟨rfl, A', c', xs', rfl⟩
        (repeat (first | (apply RL.pur; exact kPure; exact rfl) | (refine RL.guardT rfl rfl ?_) | (refine RL.guardF rfl rfl rfl rfl ?_) | (refine RL.guardU rfl rfl rfl ?_) | refine RL.nil ?_))
        refine XJ.meet (A', k + 1, c', xs') ?_ (by exact kEsub) (by exact kGives)
        simp [hf']
    rintro ⟨Ao1, k1, co1, xs1⟩ hk1
    simp only at hk1
    have hk1' : k1 ≤ k + 1 := by rw [hk1]; split <;> omega
    refine CJ.seqI (σ := Nat × Nat × Option Addr × Nat) (fun s => (scopeOf S kd nm).held.length ≤ s.2.2.2) (fun _ => [(0, .pointer (some ⟨bc, 0, none⟩)), (2, .slice Ap np cp), (6, .pointer (some ⟨b6, 0, none⟩)), (9, .pointer (some ⟨b9, 0, none⟩))])
      (fun s => cel b9 172 [.map (some s.1), .map (some s.2.1), .slice s.2.2.1 (scopeOf S kd nm).held.length s.2.2.2] :: rcel b6 50 [.int .u8 kd, .int .i64 num, .string nm, .slice A kids.length cap] :: (rrow 3 1 (.slice Ap np cp) np ps :: (ckM bc task rv ra rs Ao1 k1 co1 xs1 ++ (setsM C rv ra rs ++ (scM (scopeOf S kd nm) s.1 s.2.1 s.2.2.1 s.2.2.2 ++ F))))) ?_ ?_
    · refine kAuto ?_
      cases h42 : (kd == 42)
      case true =>
        obtain rfl : kd = 42 := by simpa using h42
        refine kAuto ?_
        (refine CJ.draws mixed 7 [cel b9 _ _] (by exact kGives) (dom_of (by kernel_rfl)) ?_)
        ((first | refine kAj 0 ?_ | refine kAjS 0 ?_); (first | refine kAj 1 ?_ | refine kAjS 1 ?_))
        ((first | refine kAj 3 ?_ | refine kAjS 3 ?_); (first | refine kAj 4 ?_ | refine kAjS 4 ?_))
        (first | refine kAj 6 ?_ | refine kAjS 6 ?_)
        (refine AJ.loud1 (i := 2) (by kernel_rfl) (by kernel_rfl) rfl (by kernel_rfl) (by kernel_rfl) rfl rfl rfl rfl rfl rfl (OpS.callO (mclone_spec w0 r1 (setM S.scalars) [rmp Value.string r1 (setM S.scalars)] (fun M => HasMap.rmp (Takes.here _ _))) (by exact kEv) inferInstance (by exact kEvl) (by exact rfl) (by (repeat (first | exact Takes.nil _ | (apply Takes.cons; (repeat (first | exact Takes.pers Pers.rmp | exact Takes.pers Pers.rrow | exact Takes.ro | exact Takes.here _ _ | apply Takes.there))))))) ?_ ?_)
        · rintro _ _ ⟨N, ⟨q1, rfl, rfl⟩, rfl⟩
          refine ⟨by exact kGives, ?_⟩
          (refine AJ.loud1 (i := 5) (by kernel_rfl) (by kernel_rfl) rfl (by kernel_rfl) (by kernel_rfl) rfl rfl rfl rfl rfl rfl (OpS.callO (mclone_spec w0 r2 (setM S.loops) [rmp Value.string r2 (setM S.loops)] (fun M => HasMap.rmp (Takes.here _ _))) (by exact kEv) inferInstance (by exact kEvl) (by exact rfl) (by (repeat (first | exact Takes.nil _ | (apply Takes.cons; (repeat (first | exact Takes.pers Pers.rmp | exact Takes.pers Pers.rrow | exact Takes.ro | exact Takes.here _ _ | apply Takes.there))))))) ?_ ?_)
          · rintro _ _ ⟨N, ⟨q2, rfl, rfl⟩, rfl⟩
            refine ⟨by exact kGives, ?_⟩
            (refine AJ.tail (by kernel_rfl) (by kernel_rfl) rfl (by kernel_rfl) (by kernel_rfl) (by kernel_rfl) ?_)
            refine kAuto ?_
            (apply RL.store; exact kEv; exact kEv; exact kTake; exact rfl; exact rfl; exact rfl)
            refine kAuto ?_
            (apply RL.store; exact kEv; exact kEv; exact kTake; exact rfl; exact rfl; exact rfl)
            refine kAuto ?_
            (refine CJ.draws mixed 9 [cel b9 _ _, rcel b6 _ _] (by exact kGives) (dom_of (by kernel_rfl)) ?_)
            ((first | refine kAj 0 ?_ | refine kAjS 0 ?_); (first | refine kAj 1 ?_ | refine kAjS 1 ?_); (first | refine kAj 2 ?_ | refine kAjS 2 ?_); (first | refine kAj 3 ?_ | refine kAjS 3 ?_); (first | refine kAj 4 ?_ | refine kAjS 4 ?_); (first | refine kAj 5 ?_ | refine kAjS 5 ?_); (first | refine kAj 6 ?_ | refine kAjS 6 ?_); (first | refine kAj 7 ?_ | refine kAjS 7 ?_))
            (refine AJ.loud0 (i := 8) (by kernel_rfl) (by kernel_rfl) rfl (by kernel_rfl) (by kernel_rfl) rfl rfl rfl rfl (OpS.mapUpdate (enc := Value.string) (by exact kEv) (by exact kEv) (by exact kEv) (by exact kTake)) ?_ ?_)
            · rintro _ _ rfl
              refine ⟨by exact kGives, ?_⟩
              (refine AJ.tail (by kernel_rfl) (by kernel_rfl) rfl (by kernel_rfl) (by kernel_rfl) (by kernel_rfl) ?_)
              (apply RL.mapUpdate; exact kEv; exact kEv; exact kEv; exact kTake)
              refine kAuto ?_
              rw [setM_upd, setM_upd]
              refine XJ.frz (A := mp Value.string q1 _) (by exact kTake) Frz.mp ?_
              refine XJ.frz (A := mp Value.string q2 _) (by exact kTake) Frz.mp ?_
              exact XJ.meet (q1, q2, Ah, ch) hch (by exact kEsub) (by exact kGives)
            · rintro _ _ h; exact h.elim
          · rintro _ _ ⟨_, h, _⟩; exact h.elim
        · rintro _ _ ⟨_, h, _⟩; exact h.elim
      have h42' : ¬ kd = 42 := by simpa using h42
      refine kAuto ?_
      cases h46 : (kd == 46)
      case true =>
        obtain rfl : kd = 46 := by simpa using h46
        refine kAuto ?_
        (refine CJ.draws mixed 7 [cel b9 _ _, rcel b6 _ _] (by exact kGives) (dom_of (by kernel_rfl)) ?_)
        ((first | refine kAj 0 ?_ | refine kAjS 0 ?_); (first | refine kAj 1 ?_ | refine kAjS 1 ?_))
        ((first | refine kAj 3 ?_ | refine kAjS 3 ?_); (first | refine kAj 4 ?_ | refine kAjS 4 ?_))
        (refine AJ.loud2 (i := 2) (j := 5) (by kernel_rfl) (by kernel_rfl) rfl (by kernel_rfl) (by kernel_rfl) rfl rfl rfl rfl rfl rfl rfl rfl rfl rfl rfl rfl (OpS.callIs (by exact kEv) inferInstance (by exact kEvl) (sclip_spec w0 Ah S.held.length ch hch)) (OpS.buildSlice (E := 9) [.string nm] rfl (by exact kEvl) (fun w => by kernel_rfl)) ?_ ?_ ?_ ?_)
        · rintro _ _ ⟨rfl, rfl⟩
          refine ⟨by exact kGives, ?_⟩
          (refine AJ.loud1 (i := 5) (by kernel_rfl) (by kernel_rfl) rfl (by kernel_rfl) (by kernel_rfl) rfl rfl rfl rfl rfl rfl (OpS.buildSlice (E := 9) [.string nm] rfl (by exact kEvl) (fun w => by kernel_rfl)) ?_ ?_)
          · rintro _ _ ⟨b, rfl, rfl⟩
            refine ⟨by exact kGives, ?_⟩
            (refine AJ.loud1 (i := 6) (by kernel_rfl) (by kernel_rfl) rfl (by kernel_rfl) (by kernel_rfl) rfl rfl rfl rfl rfl rfl (OpS.appendNew (m := 1) (news := [.string nm]) (by exact kEv) (by exact kEv) (fun h m => ⟨(rrow_src (by (repeat (first | exact Takes.pers Pers.rmp | exact Takes.pers Pers.rrow | exact Takes.ro | exact Takes.here _ _ | apply Takes.there))) m).clip, fun A l c e => by simp only [Value.slice.injEq] at e; omega⟩) (fun h m => ⟨rfl, by simp [Value.oneCell'], .inr ⟨_, _, _, rfl, HasAt.pt (by exact kTake) atAll⟩⟩) (by decide) (by simp only [maxLen]; omega) (by omega)) ?_ ?_)
            · rintro _ _ ⟨⟨A2, c2, rfl⟩, rfl⟩
              refine ⟨by exact kGives, ?_⟩
              (refine AJ.tail (by kernel_rfl) (by kernel_rfl) rfl (by kernel_rfl) (by kernel_rfl) (by kernel_rfl) ?_)
              refine kAuto ?_
              (apply RL.store; exact kEv; exact kEv; exact kTake; exact rfl; exact rfl; exact rfl)
              refine kAuto ?_
              refine XJ.fact (fun h m => row_cap (by exact kTake) m) (fun hc2 => ?_)
              refine XJ.frz (by exact kTake) Frz.row ?_
              refine XJ.meet (r1, r2, A2, c2) ?_ (by exact kEsub) ?_
              · simpa [scopeOf] using hc2
              · have e1 : (scopeOf S 46 nm).held.length = S.held.length + 1 := by simp [scopeOf]
                have e2 : (scopeOf S 46 nm).held.map Value.string = S.held.map Value.string ++ [.string nm] := by simp [scopeOf]
                simp only [scM, e1, e2]
                exact kGives
            · rintro _ _ h; exact h.elim
          · rintro _ _ h; exact h.elim
        · rintro _ _ h; exact h.elim
        · rintro _ _ ⟨b, rfl, rfl⟩
          refine ⟨by exact kGives, ?_⟩
          (refine AJ.loud1 (i := 2) (by kernel_rfl) (by kernel_rfl) rfl (by kernel_rfl) (by kernel_rfl) rfl rfl rfl rfl rfl rfl (OpS.callIs (by exact kEv) inferInstance (by exact kEvl) (sclip_spec w0 Ah S.held.length ch hch)) ?_ ?_)
          · rintro _ _ ⟨rfl, rfl⟩
            refine ⟨by exact kGives, ?_⟩
            (refine AJ.loud1 (i := 6) (by kernel_rfl) (by kernel_rfl) rfl (by kernel_rfl) (by kernel_rfl) rfl rfl rfl rfl rfl rfl (OpS.appendNew (m := 1) (news := [.string nm]) (by exact kEv) (by exact kEv) (fun h m => ⟨(rrow_src (by (repeat (first | exact Takes.pers Pers.rmp | exact Takes.pers Pers.rrow | exact Takes.ro | exact Takes.here _ _ | apply Takes.there))) m).clip, fun A l c e => by simp only [Value.slice.injEq] at e; omega⟩) (fun h m => ⟨rfl, by simp [Value.oneCell'], .inr ⟨_, _, _, rfl, HasAt.pt (by exact kTake) atAll⟩⟩) (by decide) (by simp only [maxLen]; omega) (by omega)) ?_ ?_)
            · rintro _ _ ⟨⟨A2, c2, rfl⟩, rfl⟩
              refine ⟨by exact kGives, ?_⟩
              (refine AJ.tail (by kernel_rfl) (by kernel_rfl) rfl (by kernel_rfl) (by kernel_rfl) (by kernel_rfl) ?_)
              refine kAuto ?_
              (apply RL.store; exact kEv; exact kEv; exact kTake; exact rfl; exact rfl; exact rfl)
              refine kAuto ?_
              refine XJ.fact (fun h m => row_cap (by exact kTake) m) (fun hc2 => ?_)
              refine XJ.frz (by exact kTake) Frz.row ?_
              refine XJ.meet (r1, r2, A2, c2) ?_ (by exact kEsub) ?_
              · simpa [scopeOf] using hc2
              · have e1 : (scopeOf S 46 nm).held.length = S.held.length + 1 := by simp [scopeOf]
                have e2 : (scopeOf S 46 nm).held.map Value.string = S.held.map Value.string ++ [.string nm] := by simp [scopeOf]
                simp only [scM, e1, e2]
                exact kGives
            · rintro _ _ h; exact h.elim
          · rintro _ _ h; exact h.elim
        · rintro _ _ h; exact h.elim
      have h46' : ¬ kd = 46 := by simpa using h46
      refine kAuto ?_
      have hS : scopeOf S kd nm = S := by rw [scopeOf, if_neg h42', if_neg h46']
      rw [hS]
      exact XJ.meet (r1, r2, Ah, ch) hch (by exact kEsub) (by exact kGives)
    rintro ⟨q1, q2, Ah1, ch1⟩ hch1
    simp only at hch1
    refine kAuto ?_
    have hS2 : (scopeOf S kd nm).held.length ≤ S.held.length + 1 := by
      unfold scopeOf
      split
      · simp
      · split <;> simp
    have hsub : ∀ (l : List Node) t S, visitK C l t S ≤ Node.sizeAll l := by
      intro l
      induction l with
      | nil => intro t S; simp [visitK, Node.sizeAll]
      | cons x r ih' => intro t S; have := ih' false S; have := visit_le C x t S; rw [visitK, Node.sizeAll]; omega
    have hall := hsub kids (kd == 40 || kd == 44) (scopeOf S kd nm)
    have hfin : k + visitN C (.mk kd num nm kids) place S = k1 + visitK C kids (kd == 40 || kd == 44) (scopeOf S kd nm) := by rw [visitN, hk1]; omega
    rw [hfin]
    refine CJ.loop (σ := Nat × Option Addr × Nat × Nat × List Value) (fun s => s.1 ≤ kids.length ∧ s.2.2.1 + visitK C (kids.drop s.1) (s.1 == 0 && (kd == 40 || kd == 44)) (scopeOf S kd nm) = k1 + visitK C kids (kd == 40 || kd == 44) (scopeOf S kd nm) ∧ s.2.2.1 + Node.sizeAll (kids.drop s.1) ≤ k1 + Node.sizeAll kids)
      (fun s => [(60, .int .i64 (s.1 : Int)), (59, .int .i64 kids.length), (58, .slice A kids.length cap), (0, .pointer (some ⟨bc, 0, none⟩)), (2, .slice Ap np cp), (6, .pointer (some ⟨b6, 0, none⟩)), (9, .pointer (some ⟨b9, 0, none⟩))])
      (fun s => cel b9 172 [.map (some q1), .map (some q2), .slice Ah1 (scopeOf S kd nm).held.length ch1] :: rcel b6 50 [.int .u8 kd, .int .i64 num, .string nm, .slice A kids.length cap] :: (rrow 3 1 (.slice Ap np cp) np ps :: (ckM bc task rv ra rs s.2.1 s.2.2.1 s.2.2.2.1 s.2.2.2.2 ++ (setsM C rv ra rs ++ (scM (scopeOf S kd nm) q1 q2 Ah1 ch1 ++ F)))))
      (fun s => kids.length - s.1) (0, Ao1, k1, co1, xs1) ⟨Nat.zero_le _, by simp, by simp⟩ (by exact kEsub) (by exact kGives) ?_
    rintro ⟨i, Ao2, k2, co2, xs2⟩ ⟨hi, hsum, hsz2⟩
    simp only at hi hsum hsz2
    refine kAuto ?_
    cases hlt : decide ((i : Int) < (kids.length : Int))
    · have hge : i = kids.length := by have := of_decide_eq_false hlt; omega
      subst hge
      rw [List.drop_length] at hsum
      simp only [visitK, Nat.add_zero] at hsum
      refine kAuto ?_
      refine XJ.end0 rfl (ckM bc task rv ra rs Ao2 k2 co2 xs2) (by exact kGives) ⟨rfl, Ao2, co2, xs2, by rw [← hsum]⟩
    · have hlt' : i < kids.length := by have := of_decide_eq_true hlt; omega
      obtain ⟨b, o, r, rfl, hb, hrl, hr⟩ := hN.at_ i hlt'
      obtain ⟨A4, c4, e4, _⟩ := hr.kids
      have hone : r.all (·.oneCell') = true := by rw [e4]; rfl
      have hsz1 := Node.size_mem (List.getElem_mem hlt')
      have hd : kids.drop i = kids[i] :: kids.drop (i + 1) := List.drop_eq_getElem_cons hlt'
      have hstep : ∀ t, visitK C (kids.drop i) t (scopeOf S kd nm) = visitN C kids[i] t (scopeOf S kd nm) + visitK C (kids.drop (i + 1)) false (scopeOf S kd nm) := by intro t; rw [hd, visitK]
      have hnext : ((i + 1 == 0) && (kd == 40 || kd == 44)) = false := by simp
      rw [hd, Node.sizeAll] at hsz2
      have hv := visit_le C kids[i] (i == 0 && (kd == 40 || kd == 44)) (scopeOf S kd nm)
      refine kAuto ?_
      apply RL.pur; (apply OpP.indexAddr; exact kEv; exact kEv; exact hlt'); exact rfl
      apply RL.pur; (apply OpP.loadA; exact kEv; exact HasAt.base hb; exact hrl); exact rfl
      (apply RL.alloc; exact rfl; exact rfl; intro b12)
      refine kAuto ?_
      (apply RL.storeW; exact kEv; exact kEv; exact kTake; exact hrl; exact rfl; exact hone)
      (repeat (first | (apply RL.pur; exact kPure; exact rfl) | (refine RL.guardT rfl rfl ?_) | (refine RL.guardF rfl rfl rfl rfl ?_) | (refine RL.guardU rfl rfl rfl ?_) | refine RL.nil ?_))
      refine XJ.next ?_
      obtain ⟨tgt, htgt⟩ : ∃ tgt, tgt = (i == 0 && (kd == 40 || kd == 44)) := ⟨_, rfl⟩
      rw [← htgt] at hsum hv
      refine CJ.seqI (σ := Unit) (fun _ => True) (fun _ => [(13, .bool tgt), (11, .int .i64 (i : Int)), (12, .pointer (some ⟨b12, 0, none⟩)), (60, .int .i64 (i : Int)), (59, .int .i64 kids.length), (58, .slice (some ⟨b, o, none⟩) kids.length cap), (0, .pointer (some ⟨bc, 0, none⟩)), (2, .slice Ap np cp), (6, .pointer (some ⟨b6, 0, none⟩)), (9, .pointer (some ⟨b9, 0, none⟩))])
        (fun _ => cel b12 50 r :: cel b9 172 [.map (some q1), .map (some q2), .slice Ah1 (scopeOf S kd nm).held.length ch1] :: rcel b6 50 [.int .u8 kd, .int .i64 num, .string nm, .slice (some ⟨b, o, none⟩) kids.length cap] :: (rrow 3 1 (.slice Ap np cp) np ps :: (ckM bc task rv ra rs Ao2 k2 co2 xs2 ++ (setsM C rv ra rs ++ (scM (scopeOf S kd nm) q1 q2 Ah1 ch1 ++ F))))) ?_ ?_
      · refine kAuto ?_
        cases h0 : ((i : Int) == 0)
        · have e0 : tgt = false := by rw [htgt]; simp at h0; simp [h0]
          subst e0
          refine kAuto ?_
          exact XJ.meet () trivial (by exact kEsub) (Gives.refl _)
        · refine kAuto ?_
          cases h4 : (kd == 40)
          · refine kAuto ?_
            have e0 : tgt = (kd == 44) := by rw [htgt, h4]; simp at h0; simp [h0]
            rw [← e0]
            cases tgt
            · refine kAuto ?_
              exact XJ.meet () trivial (by exact kEsub) (Gives.refl _)
            · refine kAuto ?_
              exact XJ.meet () trivial (by exact kEsub) (Gives.refl _)
          · have e0 : tgt = true := by rw [htgt, h4]; simp at h0; simp [h0]
            subst e0
            refine kAuto ?_
            exact XJ.meet () trivial (by exact kEsub) (Gives.refl _)
      rintro ⟨⟩ -
      refine CJ.env (L' := [(13, .bool tgt), (11, .int .i64 (i : Int)), (12, .pointer (some ⟨b12, 0, none⟩)), (60, .int .i64 (i : Int)), (59, .int .i64 kids.length), (58, .slice (some ⟨b, o, none⟩) kids.length cap), (0, .pointer (some ⟨bc, 0, none⟩)), (2, .slice Ap np cp), (6, .pointer (some ⟨b6, 0, none⟩)), (9, .pointer (some ⟨b9, 0, none⟩))]) (fun _ _ h => h) ?_
      (refine CJ.draws mixed 10 [cel b12 _ _, cel b9 _ _] (by exact kGives) (dom_of (by kernel_rfl)) ?_)
      ((first | refine kAj 0 ?_ | refine kAjS 0 ?_); (first | refine kAj 1 ?_ | refine kAjS 1 ?_); (first | refine kAj 2 ?_ | refine kAjS 2 ?_))
      (first | refine kAj 4 ?_ | refine kAjS 4 ?_)
      (first | refine kAj 7 ?_ | refine kAjS 7 ?_)
      (first | refine kAj 8 ?_ | refine kAjS 8 ?_)
      (refine AJ.loud2 (i := 3) (j := 5) (by kernel_rfl) (by kernel_rfl) rfl (by kernel_rfl) (by kernel_rfl) rfl rfl rfl rfl rfl rfl rfl rfl rfl rfl rfl rfl (OpS.callIs (by exact kEv) inferInstance (by exact kEvl) (iclip_spec w0 Ap np cp hcp)) (OpS.buildSlice (E := 3) [.int .i64 (i : Int)] rfl (by exact kEvl) (fun w => by kernel_rfl)) ?_ ?_ ?_ ?_)
      · rintro _ _ ⟨rfl, rfl⟩
        refine ⟨by exact kGives, ?_⟩
        (refine AJ.loud1 (i := 5) (by kernel_rfl) (by kernel_rfl) rfl (by kernel_rfl) (by kernel_rfl) rfl rfl rfl rfl rfl rfl (OpS.buildSlice (E := 3) [.int .i64 (i : Int)] rfl (by exact kEvl) (fun w => by kernel_rfl)) ?_ ?_)
        · rintro _ _ ⟨b5, rfl, rfl⟩
          refine ⟨by exact kGives, ?_⟩
          (refine AJ.loud1 (i := 6) (by kernel_rfl) (by kernel_rfl) rfl (by kernel_rfl) (by kernel_rfl) rfl rfl rfl rfl rfl rfl (OpS.appendNew (m := 1) (news := [.int .i64 (i : Int)]) (by exact kEv) (by exact kEv) (fun h m => ⟨(rrow_src (by (repeat (first | exact Takes.pers Pers.rmp | exact Takes.pers Pers.rrow | exact Takes.ro | exact Takes.here _ _ | apply Takes.there))) m).clip, fun A l c e => by simp only [Value.slice.injEq] at e; omega⟩) (fun h m => ⟨rfl, by simp [Value.oneCell'], .inr ⟨_, _, _, rfl, HasAt.pt (by exact kTake) atAll⟩⟩) (by decide) (by simp only [maxLen]; omega) (by omega)) ?_ ?_)
          · rintro _ _ ⟨⟨A2, c2, rfl⟩, rfl⟩
            refine ⟨by exact kGives, ?_⟩
            refine AJ.fact (fun h m => row_cap (by exact kTake) m) (fun hc2 => ?_)
            (refine AJ.loud1 (i := 9) (by kernel_rfl) (by kernel_rfl) rfl (by kernel_rfl) (by kernel_rfl) rfl rfl rfl rfl rfl rfl (OpS.callO (Spec.frz Frz.row (ih kids[i] r (by omega) hr (by omega) bc task rv ra rs Ao2 k2 co2 xs2 (scopeOf S kd nm) q1 q2 Ah1 ch1 A2 (np + 1) c2 _ tgt (by omega) (by omega) (by omega) hc2 hch1)) (by exact kEv) inferInstance (by exact kEvl) (by exact rfl) (by (repeat (first | exact Takes.nil _ | (apply Takes.cons; (repeat (first | exact Takes.pers Pers.rmp | exact Takes.pers Pers.rrow | exact Takes.ro | exact Takes.here _ _ | apply Takes.there))))))) ?_ ?_)
            · rintro _ _ ⟨N, ⟨rfl, A3, c3, xs3, rfl⟩, rfl⟩
              refine ⟨by exact kGives, ?_⟩
              (refine AJ.done (by kernel_rfl) (by kernel_rfl) rfl (by kernel_rfl) ?_)
              refine kAuto ?_
              rw [i64_succ i (by omega)]
              refine XJ.round (i + 1, A3, k2 + visitN C kids[i] tgt (scopeOf S kd nm), c3, xs3) ⟨by simp only; omega, ?_, by simp only; omega⟩ (by simp only; omega) (by exact kEsub) (by exact kGives)
              simp only
              rw [← hsum, hstep, hnext]
              omega
            · rintro _ _ ⟨_, h, _⟩; exact h.elim
          · rintro _ _ h; exact h.elim
        · rintro _ _ h; exact h.elim
      · rintro _ _ h; exact h.elim
      · rintro _ _ ⟨b5, rfl, rfl⟩
        refine ⟨by exact kGives, ?_⟩
        (refine AJ.loud1 (i := 3) (by kernel_rfl) (by kernel_rfl) rfl (by kernel_rfl) (by kernel_rfl) rfl rfl rfl rfl rfl rfl (OpS.callIs (by exact kEv) inferInstance (by exact kEvl) (iclip_spec w0 Ap np cp hcp)) ?_ ?_)
        · rintro _ _ ⟨rfl, rfl⟩
          refine ⟨by exact kGives, ?_⟩
          (refine AJ.loud1 (i := 6) (by kernel_rfl) (by kernel_rfl) rfl (by kernel_rfl) (by kernel_rfl) rfl rfl rfl rfl rfl rfl (OpS.appendNew (m := 1) (news := [.int .i64 (i : Int)]) (by exact kEv) (by exact kEv) (fun h m => ⟨(rrow_src (by (repeat (first | exact Takes.pers Pers.rmp | exact Takes.pers Pers.rrow | exact Takes.ro | exact Takes.here _ _ | apply Takes.there))) m).clip, fun A l c e => by simp only [Value.slice.injEq] at e; omega⟩) (fun h m => ⟨rfl, by simp [Value.oneCell'], .inr ⟨_, _, _, rfl, HasAt.pt (by exact kTake) atAll⟩⟩) (by decide) (by simp only [maxLen]; omega) (by omega)) ?_ ?_)
          · rintro _ _ ⟨⟨A2, c2, rfl⟩, rfl⟩
            refine ⟨by exact kGives, ?_⟩
            refine AJ.fact (fun h m => row_cap (by exact kTake) m) (fun hc2 => ?_)
            (refine AJ.loud1 (i := 9) (by kernel_rfl) (by kernel_rfl) rfl (by kernel_rfl) (by kernel_rfl) rfl rfl rfl rfl rfl rfl (OpS.callO (Spec.frz Frz.row (ih kids[i] r (by omega) hr (by omega) bc task rv ra rs Ao2 k2 co2 xs2 (scopeOf S kd nm) q1 q2 Ah1 ch1 A2 (np + 1) c2 _ tgt (by omega) (by omega) (by omega) hc2 hch1)) (by exact kEv) inferInstance (by exact kEvl) (by exact rfl) (by (repeat (first | exact Takes.nil _ | (apply Takes.cons; (repeat (first | exact Takes.pers Pers.rmp | exact Takes.pers Pers.rrow | exact Takes.ro | exact Takes.here _ _ | apply Takes.there))))))) ?_ ?_)
            · rintro _ _ ⟨N, ⟨rfl, A3, c3, xs3, rfl⟩, rfl⟩
              refine ⟨by exact kGives, ?_⟩
              (refine AJ.done (by kernel_rfl) (by kernel_rfl) rfl (by kernel_rfl) ?_)
              refine kAuto ?_
              rw [i64_succ i (by omega)]
              refine XJ.round (i + 1, A3, k2 + visitN C kids[i] tgt (scopeOf S kd nm), c3, xs3) ⟨by simp only; omega, ?_, by simp only; omega⟩ (by simp only; omega) (by exact kEsub) (by exact kGives)
              simp only
              rw [← hsum, hstep, hnext]
              omega
            · rintro _ _ ⟨_, h, _⟩; exact h.elim
          · rintro _ _ h; exact h.elim
        · rintro _ _ h; exact h.elim
      · rintro _ _ h; exact h.elim
end Go.Proofs.YtgmapenlgammfaaGreatDoor

/- The package check: the declarations of a task, the faults of a program. -/
namespace Go.Proofs.YtgmapenlgammfaaGreatDoor
open Go

def hitN (C : Ctx) (name : ByteArray) : Nat := if C.shared name || C.vars name || C.arrays name then 1 else 0
def insV (C : Ctx) (name : ByteArray) : Ctx := { C with vars := fun j => decide (j = name) || C.vars j }
def insA (C : Ctx) (name : ByteArray) : Ctx := { C with arrays := fun j => decide (j = name) || C.arrays j }
theorem declV_spec (w0 : World) (b2 bc : Nat) (task : Int) (rv ra rs : Nat) (Ao : Option Addr) (k co : Nat) (xs : List Value) (C : Ctx) (name : ByteArray) (hk : k ≤ 100000000000) :
    Spec Tryz.prog w0 131 #[.string name, .map (some rv), .pointer (some ⟨b2, 0, none⟩)]
      (cel b2 208 [.pointer (some ⟨bc, 0, none⟩)] :: (ckM bc task rv ra rs Ao k co xs ++ [mp Value.string rv (setM C.vars), mp Value.string ra (setM C.arrays), rmp Value.string rs (setM C.shared)]))
      (Ret (fun v N => v = .tuple #[] ∧ ∃ A' c' xs', N = cel b2 208 [.pointer (some ⟨bc, 0, none⟩)] :: (ckM bc task rv ra rs A' (k + hitN C name) c' xs' ++ [mp Value.string rv (setM (insV C name).vars), mp Value.string ra (setM (insV C name).arrays)])) noP) := by
  refine Spec.enter (args := [_, _, _]) Tryz.func131 rfl rfl rfl (fun F => ?_)
  refine CJ.seqI (σ := Option Addr × Nat × Nat × List Value) (fun s => s.2.1 = k + hitN C name) (fun _ => [(0, .string name), (1, .map (some rv))])
    (fun s => cel b2 208 [.pointer (some ⟨bc, 0, none⟩)] :: (ckM bc task rv ra rs s.1 s.2.1 s.2.2.1 s.2.2.2 ++ (mp Value.string rv (setM C.vars) :: mp Value.string ra (setM C.arrays) :: F))) ?_ ?_
  · refine kAuto ?_
    have hadd : ∀ (M : List HProp), Gives M (rrow 3 1 (.slice none 0 0) 0 [] :: M) := fun M => rrow_nil _ _
    cases h1 : C.shared name
    · refine kAuto ?_
      cases h2 : C.vars name
      · refine kAuto ?_
        cases h3 : C.arrays name
        · refine kAuto ?_
          refine XJ.meet (Ao, k, co, xs) ?_ (by exact kEsub) (by exact kGives)
          simp [hitN, h1, h2, h3]
        · refine kAuto ?_
          refine RL.gives (hadd _) ?_
          (apply RL.callK; exact kEv; exact inferInstance; exact kEvl; rotate_left; exact (add_spec w0 bc task (.map (some rv)) (.map (some ra)) (.map (some rs)) Ao k co xs none 0 0 [] 8 name hk (by omega)); rotate_right; exact (by (repeat (first | exact Takes.nil _ | (apply Takes.cons; (repeat (first | exact Takes.pers Pers.rmp | exact Takes.pers Pers.rrow | exact Takes.ro | exact Takes.here _ _ | apply Takes.there)))))); exact rfl)
          rintro _ _ ⟨rfl, A', c', xs', rfl⟩
          refine kAuto ?_
          refine XJ.meet (A', k + 1, c', xs') ?_ (by exact kEsub) (by exact kGives)
          simp [hitN, h1, h2, h3]
      · refine kAuto ?_
        refine RL.gives (hadd _) ?_
        (apply RL.callK; exact kEv; exact inferInstance; exact kEvl; rotate_left; exact (add_spec w0 bc task (.map (some rv)) (.map (some ra)) (.map (some rs)) Ao k co xs none 0 0 [] 8 name hk (by omega)); rotate_right; exact (by (repeat (first | exact Takes.nil _ | (apply Takes.cons; (repeat (first | exact Takes.pers Pers.rmp | exact Takes.pers Pers.rrow | exact Takes.ro | exact Takes.here _ _ | apply Takes.there)))))); exact rfl)
        rintro _ _ ⟨rfl, A', c', xs', rfl⟩
        refine kAuto ?_
        refine XJ.meet (A', k + 1, c', xs') ?_ (by exact kEsub) (by exact kGives)
        simp [hitN, h1, h2]
    · refine kAuto ?_
      refine RL.gives (hadd _) ?_
      (apply RL.callK; exact kEv; exact inferInstance; exact kEvl; rotate_left; exact (add_spec w0 bc task (.map (some rv)) (.map (some ra)) (.map (some rs)) Ao k co xs none 0 0 [] 8 name hk (by omega)); rotate_right; exact (by (repeat (first | exact Takes.nil _ | (apply Takes.cons; (repeat (first | exact Takes.pers Pers.rmp | exact Takes.pers Pers.rrow | exact Takes.ro | exact Takes.here _ _ | apply Takes.there)))))); exact rfl)
      rintro _ _ ⟨rfl, A', c', xs', rfl⟩
      refine kAuto ?_
      refine XJ.meet (A', k + 1, c', xs') ?_ (by exact kEsub) (by exact kGives)
      simp [hitN, h1]
  rintro ⟨A1, k1, c1, xs1⟩ hk1
  simp only at hk1
  subst hk1
  refine kAuto ?_
  (apply RL.mapUpdate (enc := Value.string) (r := rv); exact kEv; exact kEv; exact kEv; exact kTake)
  rw [setM_upd]
  refine kAuto ?_
  exact XJ.end0 rfl (cel b2 208 [.pointer (some ⟨bc, 0, none⟩)] :: (ckM bc task rv ra rs A1 (k + hitN C name) c1 xs1 ++ [mp Value.string rv (setM (insV C name).vars), mp Value.string ra (setM (insV C name).arrays)])) (by exact kGives) ⟨rfl, A1, c1, xs1, rfl⟩
theorem declA_spec (w0 : World) (b2 bc : Nat) (task : Int) (rv ra rs : Nat) (Ao : Option Addr) (k co : Nat) (xs : List Value) (C : Ctx) (name : ByteArray) (hk : k ≤ 100000000000) :
    Spec Tryz.prog w0 131 #[.string name, .map (some ra), .pointer (some ⟨b2, 0, none⟩)]
      (cel b2 208 [.pointer (some ⟨bc, 0, none⟩)] :: (ckM bc task rv ra rs Ao k co xs ++ [mp Value.string rv (setM C.vars), mp Value.string ra (setM C.arrays), rmp Value.string rs (setM C.shared)]))
      (Ret (fun v N => v = .tuple #[] ∧ ∃ A' c' xs', N = cel b2 208 [.pointer (some ⟨bc, 0, none⟩)] :: (ckM bc task rv ra rs A' (k + hitN C name) c' xs' ++ [mp Value.string rv (setM (insA C name).vars), mp Value.string ra (setM (insA C name).arrays)])) noP) := by
  refine Spec.enter (args := [_, _, _]) Tryz.func131 rfl rfl rfl (fun F => ?_)
  refine CJ.seqI (σ := Option Addr × Nat × Nat × List Value) (fun s => s.2.1 = k + hitN C name) (fun _ => [(0, .string name), (1, .map (some ra))])
    (fun s => cel b2 208 [.pointer (some ⟨bc, 0, none⟩)] :: (ckM bc task rv ra rs s.1 s.2.1 s.2.2.1 s.2.2.2 ++ (mp Value.string rv (setM C.vars) :: mp Value.string ra (setM C.arrays) :: F))) ?_ ?_
  · refine kAuto ?_
    have hadd : ∀ (M : List HProp), Gives M (rrow 3 1 (.slice none 0 0) 0 [] :: M) := fun M => rrow_nil _ _
    cases h1 : C.shared name
    · refine kAuto ?_
      cases h2 : C.vars name
      · refine kAuto ?_
        cases h3 : C.arrays name
        · refine kAuto ?_
          refine XJ.meet (Ao, k, co, xs) ?_ (by exact kEsub) (by exact kGives)
          simp [hitN, h1, h2, h3]
        · refine kAuto ?_
          refine RL.gives (hadd _) ?_
          (apply RL.callK; exact kEv; exact inferInstance; exact kEvl; rotate_left; exact (add_spec w0 bc task (.map (some rv)) (.map (some ra)) (.map (some rs)) Ao k co xs none 0 0 [] 8 name hk (by omega)); rotate_right; exact (by (repeat (first | exact Takes.nil _ | (apply Takes.cons; (repeat (first | exact Takes.pers Pers.rmp | exact Takes.pers Pers.rrow | exact Takes.ro | exact Takes.here _ _ | apply Takes.there)))))); exact rfl)
          rintro _ _ ⟨rfl, A', c', xs', rfl⟩
          refine kAuto ?_
          refine XJ.meet (A', k + 1, c', xs') ?_ (by exact kEsub) (by exact kGives)
          simp [hitN, h1, h2, h3]
      · refine kAuto ?_
        refine RL.gives (hadd _) ?_
        (apply RL.callK; exact kEv; exact inferInstance; exact kEvl; rotate_left; exact (add_spec w0 bc task (.map (some rv)) (.map (some ra)) (.map (some rs)) Ao k co xs none 0 0 [] 8 name hk (by omega)); rotate_right; exact (by (repeat (first | exact Takes.nil _ | (apply Takes.cons; (repeat (first | exact Takes.pers Pers.rmp | exact Takes.pers Pers.rrow | exact Takes.ro | exact Takes.here _ _ | apply Takes.there)))))); exact rfl)
        rintro _ _ ⟨rfl, A', c', xs', rfl⟩
        refine kAuto ?_
        refine XJ.meet (A', k + 1, c', xs') ?_ (by exact kEsub) (by exact kGives)
        simp [hitN, h1, h2]
    · refine kAuto ?_
      refine RL.gives (hadd _) ?_
      (apply RL.callK; exact kEv; exact inferInstance; exact kEvl; rotate_left; exact (add_spec w0 bc task (.map (some rv)) (.map (some ra)) (.map (some rs)) Ao k co xs none 0 0 [] 8 name hk (by omega)); rotate_right; exact (by (repeat (first | exact Takes.nil _ | (apply Takes.cons; (repeat (first | exact Takes.pers Pers.rmp | exact Takes.pers Pers.rrow | exact Takes.ro | exact Takes.here _ _ | apply Takes.there)))))); exact rfl)
      rintro _ _ ⟨rfl, A', c', xs', rfl⟩
      refine kAuto ?_
      refine XJ.meet (A', k + 1, c', xs') ?_ (by exact kEsub) (by exact kGives)
      simp [hitN, h1]
  rintro ⟨A1, k1, c1, xs1⟩ hk1
  simp only at hk1
  subst hk1
  refine kAuto ?_
  (apply RL.mapUpdate (enc := Value.string) (r := ra); exact kEv; exact kEv; exact kEv; exact kTake)
  rw [setM_upd]
  refine kAuto ?_
  exact XJ.end0 rfl (cel b2 208 [.pointer (some ⟨bc, 0, none⟩)] :: (ckM bc task rv ra rs A1 (k + hitN C name) c1 xs1 ++ [mp Value.string rv (setM (insA C name).vars), mp Value.string ra (setM (insA C name).arrays)])) (by exact kGives) ⟨rfl, A1, c1, xs1, rfl⟩
end Go.Proofs.YtgmapenlgammfaaGreatDoor

/- The package check: the names that a task declares. -/
namespace Go.Proofs.YtgmapenlgammfaaGreatDoor
open Go

def stepV (p : Nat × Ctx) (s : ByteArray) : Nat × Ctx := (p.1 + hitN p.2 s, insV p.2 s)
def stepA (p : Nat × Ctx) (a : Arr) : Nat × Ctx := (p.1 + hitN p.2 a.name, insA p.2 a.name)
def declT (p : Nat × Ctx) (t : Task) : Nat × Ctx := t.arrays.foldl stepA (t.vars.foldl stepV p)
theorem hitN_le (C : Ctx) (s : ByteArray) : hitN C s ≤ 1 := by unfold hitN; split <;> omega
section
attribute [local semireducible] Takes Gives pt HasAt
/-- One cell of a block of one's own. -/
def atp (b o : Nat) (v : Value) : HProp := fun h => ∃ cs T, h b = some (.rw (.cells (List.toArray cs) T (0, 0))) ∧ cs[o]? = some v
theorem Gives.atp {b o T : Nat} {v : Value} {cs : List Value} {M M1 N : List HProp} (k : Takes M [cel b T cs] M1) (e : cs[o]? = some v) (g : Gives M1 N) : Gives M (Go.Proofs.YtgmapenlgammfaaGreatDoor.atp b o v :: N) := fun h m => by
  obtain ⟨h1, h2, l1, l2, d, a, m2⟩ := k h m
  exact ⟨h1, h2, l1, l2, d, ⟨cs, T, a, e⟩, g h2 m2⟩
theorem HasAt.atp {w0 : World} {b o : Nat} {v : Value} {M M' : List HProp} (t : Takes M [Go.Proofs.YtgmapenlgammfaaGreatDoor.atp b o v] M') : HasAt w0 M b o [v] := fun w h m s => by
  obtain ⟨h1, h2, l1, l2, d, ⟨cs, T, a, e⟩, m2⟩ := t h m
  have hb := (s.own _ _ (l1 _ _ a)).2
  exact HasAt.heap hb (at1 e)
end
theorem foldl_take' {α β : Type} (f : β → α → β) (b : β) (l : List α) (i : Nat) (h : i < l.length) : (l.take (i + 1)).foldl f b = f ((l.take i).foldl f b) l[i] := foldl_take f b l i h
theorem declare_spec (w0 : World) (t : Task) (cs : List Value) (hR : TaskR w0 t cs) (hl : cs.length = 8) (h1 : t.vars.length ≤ 10000000000) (h2 : t.arrays.length ≤ 10000000000) (bc : Nat) (task : Int) (rv ra rs : Nat) (Ao : Option Addr) (k co : Nat) (xs : List Value) (C : Ctx) (hk : k ≤ 10000000000) :
    Spec Tryz.prog w0 89 #[.pointer (some ⟨bc, 0, none⟩), .agg cs.toArray]
      (ckM bc task rv ra rs Ao k co xs ++ [mp Value.string rv (setM C.vars), mp Value.string ra (setM C.arrays), rmp Value.string rs (setM C.shared)])
      (Ret (fun v N => v = .tuple #[] ∧ ∃ A' c' xs', N = ckM bc task rv ra rs A' (declT (k, C) t).1 c' xs' ++ [mp Value.string rv (setM (declT (k, C) t).2.vars), mp Value.string ra (setM (declT (k, C) t).2.arrays)]) noP) := by
  obtain ⟨A1, c1, A2, c2, bs, rfl, g1, g2, g3, g4, g5⟩ := hR.ex
  obtain ⟨A0, cap0, hbs, _⟩ := g5.kids
  subst hbs
  refine Spec.enter (args := [_, _]) Tryz.func89 rfl rfl rfl (fun F => ?_)
  refine kAuto ?_
  (apply RL.box1; exact kEv; exact rfl; exact rfl; intro b2)
  (apply RL.boxR; exact kEv; exact rfl; intro b3)
  refine kAuto ?_
  generalize hcs : ([Value.string t.name, Value.int IntKind.i64 t.period, Value.slice A1 t.vars.length c1, Value.slice A2 t.arrays.length c2] ++ [Value.int IntKind.u8 t.body.kind, Value.int IntKind.i64 t.body.num, Value.string t.body.name, Value.slice A0 t.body.kids.length cap0]) = tcs
  refine CJ.loop (σ := Nat × Option Addr × Nat × Nat × List Value × Ctx) (fun s => s.1 ≤ t.vars.length ∧ (s.2.2.1, s.2.2.2.2.2) = (t.vars.take s.1).foldl stepV (k, C) ∧ s.2.2.1 ≤ k + s.1 ∧ s.2.2.2.2.2.shared = C.shared)
    (fun s => [(13, .int .i64 (s.1 : Int)), (12, .int .i64 t.vars.length), (11, .slice A1 t.vars.length c1), (4, .func (.func 131) #[] #[.pointer (some ⟨b2, 0, none⟩)]), (2, .pointer (some ⟨b2, 0, none⟩)), (3, .pointer (some ⟨b3, 0, none⟩))])
    (fun s => rcel b3 52 tcs :: cel b2 208 [.pointer (some ⟨bc, 0, none⟩)] :: (ckM bc task rv ra rs s.2.1 s.2.2.1 s.2.2.2.1 s.2.2.2.2.1 ++ (mp Value.string rv (setM s.2.2.2.2.2.vars) :: mp Value.string ra (setM s.2.2.2.2.2.arrays) :: rmp Value.string rs (setM C.shared) :: F)))
    (fun s => t.vars.length - s.1) (0, Ao, k, co, xs, C) ⟨Nat.zero_le _, by simp, by simp, rfl⟩ (by exact kEsub) (by exact kGives) ?_
  rintro ⟨i, Ao1, k1, co1, xs1, C1⟩ ⟨hi, hst, hk1, hsh⟩
  simp only at hi hst hk1 hsh
  refine kAuto ?_
  cases hlt : decide ((i : Int) < (t.vars.length : Int))
  · have hge : i = t.vars.length := by have := of_decide_eq_false hlt; omega
    subst hge
    rw [List.take_length] at hst
    refine kAuto ?_
    subst hcs
    refine kAuto ?_
    generalize hcs : ([Value.string t.name, Value.int IntKind.i64 t.period, Value.slice A1 t.vars.length c1, Value.slice A2 t.arrays.length c2] ++ [Value.int IntKind.u8 t.body.kind, Value.int IntKind.i64 t.body.num, Value.string t.body.name, Value.slice A0 t.body.kids.length cap0]) = tcs
    refine CJ.loop (σ := Nat × Option Addr × Nat × Nat × List Value × Ctx) (fun s => s.1 ≤ t.arrays.length ∧ (s.2.2.1, s.2.2.2.2.2) = (t.arrays.take s.1).foldl stepA (k1, C1) ∧ s.2.2.1 ≤ k1 + s.1 ∧ s.2.2.2.2.2.shared = C.shared)
      (fun s => [(28, .int .i64 (s.1 : Int)), (27, .int .i64 t.arrays.length), (26, .slice A2 t.arrays.length c2), (4, .func (.func 131) #[] #[.pointer (some ⟨b2, 0, none⟩)]), (2, .pointer (some ⟨b2, 0, none⟩)), (3, .pointer (some ⟨b3, 0, none⟩))])
      (fun s => cel b2 208 [.pointer (some ⟨bc, 0, none⟩)] :: (ckM bc task rv ra rs s.2.1 s.2.2.1 s.2.2.2.1 s.2.2.2.2.1 ++ (mp Value.string rv (setM s.2.2.2.2.2.vars) :: mp Value.string ra (setM s.2.2.2.2.2.arrays) :: rmp Value.string rs (setM C.shared) :: F)))
      (fun s => t.arrays.length - s.1) (0, Ao1, k1, co1, xs1, C1) ⟨Nat.zero_le _, by simp, by simp, hsh⟩ (by exact kEsub) (by exact kGives) ?_
    rintro ⟨i, Ao2, k2, co2, xs2, C2⟩ ⟨hi, hst2, hk2, hsh2⟩
    simp only at hi hst2 hk2 hsh2
    refine kAuto ?_
    cases hlt : decide ((i : Int) < (t.arrays.length : Int))
    · have hge : i = t.arrays.length := by have := of_decide_eq_false hlt; omega
      subst hge
      rw [List.take_length] at hst2
      refine kAuto ?_
      have hd : declT (k, C) t = (k2, C2) := by rw [hst2, hst]; rfl
      refine XJ.end0 rfl (ckM bc task rv ra rs Ao2 k2 co2 xs2 ++ [mp Value.string rv (setM C2.vars), mp Value.string ra (setM C2.arrays)]) (by exact kGives) ⟨rfl, Ao2, co2, xs2, by rw [hd]⟩
    · have hlt' : i < t.arrays.length := by have := of_decide_eq_true hlt; omega
      obtain ⟨b, o, rfl, hrl, hb⟩ := g4.at_ i (by simpa using hlt')
      simp only [List.getElem_map, arrRow] at hb hrl
      refine kAuto ?_
      apply RL.pur; (apply OpP.indexAddr; exact kEv; exact kEv; exact hlt'); exact rfl
      apply RL.pur; (apply OpP.loadA; exact kEv; exact HasAt.base hb; exact hrl); exact rfl
      (apply RL.alloc; exact rfl; exact rfl; intro b8)
      refine kAuto ?_
      (apply RL.storeW; exact kEv; exact kEv; exact kTake; exact rfl; exact rfl; exact rfl)
      refine kAuto ?_
      refine CJ.draws mixed 8 [atp bc 2 (.map (some ra)), cel b8 _ _, cel b2 _ _] (Gives.atp (by exact kTake) rfl (by exact kGives)) (dom_of (by kernel_rfl)) ?_
      ((first | refine kAj 0 ?_ | refine kAjS 0 ?_); (first | refine kAj 1 ?_ | refine kAjS 1 ?_); (first | refine kAj 2 ?_ | refine kAjS 2 ?_); (first | refine kAj 3 ?_ | refine kAjS 3 ?_); (first | refine kAj 4 ?_ | refine kAjS 4 ?_); (first | refine kAj 5 ?_ | refine kAjS 5 ?_))
      (apply AJ.pur (i := 6); exact rfl; exact rfl; exact rfl; exact rfl; exact rfl; exact rfl; exact rfl; exact rfl; exact rfl; (apply OpP.load; exact kEv; exact HasAt.atp (Takes.here _ _)))
      have hdc := declA_spec w0 b2 bc task rv ra rs Ao2 k2 co2 xs2 C2 t.arrays[i].name (by omega)
      rw [hsh2] at hdc
      (refine AJ.loud1 (i := 7) (by kernel_rfl) (by kernel_rfl) rfl (by kernel_rfl) (by kernel_rfl) rfl rfl rfl rfl rfl rfl (OpS.callO hdc (by exact kEv) inferInstance (by exact kEvl) (by exact rfl) (by (repeat (first | exact Takes.nil _ | (apply Takes.cons; (repeat (first | exact Takes.pers Pers.rmp | exact Takes.pers Pers.rrow | exact Takes.ro | exact Takes.here _ _ | apply Takes.there))))))) ?_ ?_)
      · rintro _ _ ⟨N, ⟨rfl, A', c', xs', rfl⟩, rfl⟩
        refine ⟨Gives.atp (by exact kTake) rfl (by exact kGives), ?_⟩
        (refine AJ.done (by kernel_rfl) (by kernel_rfl) rfl (by kernel_rfl) ?_)
        refine kAuto ?_
        rw [i64_succ i (by omega)]
        have hh := hitN_le C2 t.arrays[i].name
        refine XJ.round (i + 1, A', k2 + hitN C2 t.arrays[i].name, c', xs', insA C2 t.arrays[i].name) ⟨by simp only; omega, ?_, by simp only; omega, hsh2⟩ (by simp only; omega) (by exact kEsub) (by exact kGives)
        rw [foldl_take _ _ _ _ hlt', ← hst2]
        rfl
      · rintro _ _ ⟨_, h, _⟩; exact h.elim
  · have hlt' : i < t.vars.length := by have := of_decide_eq_true hlt; omega
    obtain ⟨b, o, rfl, hrl, hb⟩ := g3.at_ i (by simpa using hlt')
    simp only [List.getElem_map, strRow] at hb hrl
    refine kAuto ?_
    apply RL.pur; (apply OpP.indexAddr; exact kEv; exact kEv; exact hlt'); exact rfl
    apply RL.pur; (apply OpP.load; exact kEv; exact HasAt.base hb); exact rfl
    refine kAuto ?_
    have hdc := declV_spec w0 b2 bc task rv ra rs Ao1 k1 co1 xs1 C1 t.vars[i] (by omega)
    rw [hsh] at hdc
    (apply RL.callK; exact kEv; exact inferInstance; exact kEvl; rotate_left; exact hdc; rotate_right; exact (by (repeat (first | exact Takes.nil _ | (apply Takes.cons; (repeat (first | exact Takes.pers Pers.rmp | exact Takes.pers Pers.rrow | exact Takes.ro | exact Takes.here _ _ | apply Takes.there)))))); exact rfl)
    rintro _ _ ⟨rfl, A', c', xs', rfl⟩
    refine kAuto ?_
    rw [i64_succ i (by omega)]
    have hh := hitN_le C1 t.vars[i]
    refine XJ.round (i + 1, A', k1 + hitN C1 t.vars[i], c', xs', insV C1 t.vars[i]) ⟨by simp only; omega, ?_, by simp only; omega, hsh⟩ (by simp only; omega) (by exact kEsub) (by exact kGives)
    rw [foldl_take _ _ _ _ hlt', ← hst]
    rfl
end Go.Proofs.YtgmapenlgammfaaGreatDoor

/- The package check: the faults of a program. -/
namespace Go.Proofs.YtgmapenlgammfaaGreatDoor
open Go
section
attribute [local semireducible] Takes Gives
theorem AJ.frz {P : Program} {w0 : World} {n : Nat} {ops : Array Oper} {Q : Exit → Act → World → Prop} {Mro : List HProp} {k : Nat} {D : List Nat} {L : Env} {M M' : List HProp} {A B : HProp} (g : Takes M [A] M') (f : Frz A B) (hm : Gives (B :: M') Mro) (kk : AJ P w0 n ops Q Mro k D L (B :: M')) : AJ P w0 n ops Q Mro k D L M := by
  intro g0 fuel Z listed a w h r hp m s hc
  obtain ⟨h', m', s'⟩ := f.star s (g h m)
  exact kk hm fuel Z listed a w h' r hp m' s' hc
end
theorem OpP.buildB {P : Program} {w0 : World} {L : Env} {M : List HProp} {T : TypeId} {p : String} {af : Array Edge} {d : Option Tmp} {g : Option (Nat × Bool)} {t q : Nat} {ps : List (Nat × Operand)} {xs : List Operand} {vs : List Value} [k : AggT P t q] (hp : ps.map (·.2) = xs) (hx : EvL L xs vs) (hq : Nat.beq vs.length q = true) (hr : ∀ w, (Instr.build t ((ps.map (·.1)).zip vs).toArray).run P w = .ok (.agg vs.toArray) w) : OpP P w0 L M ⟨d, .build t ps.toArray, T, p, af, g⟩ (.agg vs.toArray) := OpP.build hx hp hr
theorem kPureB {P : Program} {w0 : World} {L : Env} {M : List HProp} {o : Oper} {v : Value} (h : OpP P w0 L M o v := by (first | (apply OpP.move; exact kEv) | (apply OpP.assign; exact kEv) | (apply OpP.fieldAddr; exact kEv) | (apply OpP.load; exact kEv; exact kHas) | (apply OpP.loadA; exact kEv; exact kHasA; (first | exact rfl | assumption)) | (apply OpP.lookupSet; exact kEv; exact kEv; exact kHasm) | (apply OpP.loadSr; exact kEv; exact kTake; exact rfl) | (apply OpP.loadSp; exact kEv; exact kTake; exact rfl) | (apply OpP.pickT; exact kEv; exact kEv) | (apply OpP.pickF; exact kEv; exact kEv) | (apply OpP.notT; exact kEv) | (apply OpP.notF; exact kEv) | (apply OpP.not; exact kEv) | (apply OpP.nilCheck; exact kEv) | (apply OpP.eql; exact kEv; exact kEv) | (apply OpP.neq; exact kEv; exact kEv) | (apply OpP.lss; exact kEv; exact kEv) | (apply OpP.leq; exact kEv; exact kEv) | (apply OpP.gtr; exact kEv; exact kEv) | (apply OpP.geq; exact kEv; exact kEv) | (apply OpP.add; exact kEv; exact kEv) | (apply OpP.sub; exact kEv; exact kEv) | (apply OpP.mul; exact kEv; exact kEv) | (apply OpP.and; exact kEv; exact kEv) | (apply OpP.or; exact kEv; exact kEv) | (apply OpP.xor; exact kEv; exact kEv) | (apply OpP.convert; exact kEv) | (apply OpP.extract; exact kEv; exact rfl) | (apply OpP.len; exact kEv) | (apply OpP.slen; exact kEv) | (apply OpP.neg; exact kEv) | (apply OpP.seql; exact kEv; exact kEv) | (apply OpP.sneq; exact kEv; exact kEv) | (apply OpP.field; exact kEv; exact rfl) | (apply OpP.makeFunc; exact kEvl; exact kEvl) | (apply OpP.makeInterface; exact kEv) | (apply OpP.buildB; exact rfl; exact kEvl; exact rfl; (intro w; kernel_rfl)))) : OpP P w0 L M o v := h
theorem kAutoB {G G' : Prop} (k : G') (h : KW G' → G := by
  intro k
  (repeat (first | (apply RL.pur; exact kPureB; exact rfl) | refine CJ.seq ?_ | refine CJ.region ?_ | refine RL.nil ?_ | refine XJ.next ?_ | refine CJ.block ?_ | refine CJ.skip ?_ | refine CJ.ret ?_ | refine CJ.exit ?_ | refine XJ.then_ret ?_ | refine XJ.block_ret ?_ | refine XJ.block_normal ?_ | refine XJ.then_exit ?_ | refine XJ.block_exit ?_ | refine XJ.block_other rfl ?_ | refine XJ.then_panic ?_ | refine XJ.block_panic ?_ | (refine CJ.condT ?_ ?_; exact kEv) | (refine CJ.condF ?_ ?_; exact kEv) | (refine RL.guardT rfl rfl ?_) | (refine RL.guardF rfl rfl rfl rfl ?_) | (refine RL.guardU rfl rfl rfl ?_)))
  exact KW.out k) : G := h ⟨k⟩
theorem kAjB {P : Program} {w0 : World} {n : Nat} {ops : Array Oper} {Q : Exit → Act → World → Prop} {Mro : List HProp} {k : Nat} {D : List Nat} {L : Env} {M : List HProp}
    {d : Nat} {op : Op} {T : TypeId} {p : String} {af : Array Edge} {gd : Option (Nat × Bool)} {v : Value} (i : Nat) (kk : AJ P w0 n ops Q Mro k (i :: D) ((d, v) :: L) M)
    (ho : ops[i]? = some ⟨some d, op, T, p, af, gd⟩ := by exact rfl) (hik : Nat.blt i k = true := by exact rfl) (hk : Nat.ble k ops.size = true := by exact rfl) (hD : D.contains i = false := by exact rfl) (hf : L.get d = none := by exact rfl) (hd : Nat.blt d n = true := by exact rfl)
    (hns : notSel ⟨some d, op, T, p, af, gd⟩ = true := by exact rfl) (hlk : ((Oper.looksAt ops ⟨some d, op, T, p, af, gd⟩).all fun t => (L.get t).isSome) = true := by exact rfl)
    (hw : wantedL ops L ⟨some d, op, T, p, af, gd⟩ = some true := by exact rfl) (hrun : OpP P w0 L Mro ⟨some d, op, T, p, af, gd⟩ v := by exact kPureB) : AJ P w0 n ops Q Mro k D L M := AJ.pur ho hik hk hD hf hd hns hlk hw hrun kk
theorem RL.build {P : Program} {w0 : World} {n : Nat} {ops : Array Oper} {Q : Exit → Act → World → Prop} {L : Env} {M : List HProp} {l : List Oper} {T : TypeId} {p : String} {af : Array Edge} {d : Nat} {t : TypeId} {ps : List (Nat × Operand)} {xs : List Operand} {vs : List Value} {r : Value} (hp : ps.map (·.2) = xs) (hx : EvL L xs vs) (hr : ∀ w, (Instr.build t ((ps.map (·.1)).zip vs).toArray).run P w = .ok r w) (hd : Nat.blt d n = true)
    (k : RL P w0 n ops Q l ((d, r) :: L) M) : RL P w0 n ops Q (⟨some d, .build t ps.toArray, T, p, af, none⟩ :: l) L M := RL.pur (OpP.build hx hp hr) hd k
mutual
theorem sizeI_eq : ∀ n : Node, n.size < 4611686018427387904 → sizeI n = n.size
  | .mk k num s l, h => by
    rw [Node.size] at h
    rw [sizeI, sizeF_val l 0 (by omega) (by omega), Node.size]
    simp only [IntKind.wrap, IntKind.signed, IntKind.bits]
    simp
    omega
theorem sizeF_val : ∀ (l : List Node) (a : Int), 0 ≤ a → a + Node.sizeAll l < 4611686018427387904 → sizeF l a = a + Node.sizeAll l
  | [], a, _, _ => by simp [sizeF, Node.sizeAll]
  | n :: r, a, h0, h => by
    rw [Node.sizeAll] at h
    have h1 := sizeI_eq n (by omega)
    have e : IntKind.i64.wrap (a + sizeI n) = a + n.size := by
      rw [h1]
      simp only [IntKind.wrap, IntKind.signed, IntKind.bits]
      simp
      omega
    rw [sizeF, e, sizeF_val r _ (by omega) (by omega), Node.sizeAll]
    omega
end
def insB (s : ByteArray → Bool) (x : ByteArray) : ByteArray → Bool := fun j => decide (j = x) || s j
def stepS (p : Nat × (ByteArray → Bool)) (a : Arr) : Nat × (ByteArray → Bool) := (p.1 + (if p.2 a.name then 1 else 0), insB p.2 a.name)
def noneB : ByteArray → Bool := fun _ => false
def sharedB (p : Prg) : Nat × (ByteArray → Bool) := p.shared.foldl stepS (0, noneB)
def taskD (sh : ByteArray → Bool) (q : ByteArray → Bool) (t : Task) : Nat × Ctx := declT (if q t.name then 1 else 0, ⟨noneB, noneB, sh⟩) t
def stepT (sh : ByteArray → Bool) (p : Nat × (ByteArray → Bool)) (t : Task) : Nat × (ByteArray → Bool) :=
  (p.1 + ((taskD sh p.2 t).1 + visitN (taskD sh p.2 t).2 t.body false ⟨(taskD sh p.2 t).2.vars, noneB, []⟩), insB p.2 t.name)
/-- The number of faults of a program. -/
def checkN (p : Prg) : Nat := if validB p then (p.tasks.foldl (stepT (sharedB p).2) ((sharedB p).1, noneB)).1 else 0
def okB (p : Prg) : Bool := validB p && decide (checkN p = 0)
theorem declT_shared (p : Nat × Ctx) (t : Task) : (declT p t).2.shared = p.2.shared := by
  unfold declT
  have h1 : ∀ (l : List ByteArray) (p : Nat × Ctx), (l.foldl stepV p).2.shared = p.2.shared := by
    intro l
    induction l with
    | nil => intro p; rfl
    | cons x r ih => intro p; rw [List.foldl_cons, ih]; rfl
  have h2 : ∀ (l : List Arr) (p : Nat × Ctx), (l.foldl stepA p).2.shared = p.2.shared := by
    intro l
    induction l with
    | nil => intro p; rfl
    | cons x r ih => intro p; rw [List.foldl_cons, ih]; rfl
  rw [h2, h1]
theorem declT_le (p : Nat × Ctx) (t : Task) : (declT p t).1 ≤ p.1 + t.vars.length + t.arrays.length := by
  unfold declT
  have h1 : ∀ (l : List ByteArray) (p : Nat × Ctx), (l.foldl stepV p).1 ≤ p.1 + l.length := by
    intro l
    induction l with
    | nil => intro p; simp
    | cons x r ih => intro p; have := ih (stepV p x); have := hitN_le p.2 x; rw [List.foldl_cons]; simp only [stepV, List.length_cons] at *; omega
  have h2 : ∀ (l : List Arr) (p : Nat × Ctx), (l.foldl stepA p).1 ≤ p.1 + l.length := by
    intro l
    induction l with
    | nil => intro p; simp
    | cons x r ih => intro p; have := ih (stepA p x); have := hitN_le p.2 x.name; rw [List.foldl_cons]; simp only [stepA, List.length_cons] at *; omega
  have := h1 t.vars p
  have := h2 t.arrays (t.vars.foldl stepV p)
  omega
theorem task_sizes {t : Task} (h : taskB t = true) (hs : t.body.size < 4611686018427387904) : t.vars.length ≤ 12 ∧ t.arrays.length ≤ 4 ∧ t.body.size ≤ 400 := by
  unfold taskB at h
  simp only [Bool.and_eq_true, Bool.not_eq_true', decide_eq_false_iff_not, decide_eq_true_eq, arrsB] at h
  have e := sizeI_eq t.body hs
  omega
theorem check_spec (w0 : World) (hT : Tab w0) (p : Prg) (cs : List Value) (hf : Fit p) (hR : PrgR w0 p cs) :
    Spec Tryz.prog w0 52 #[.agg cs.toArray] [] (Ret (fun v _ => ∃ A c, v = .slice A (checkN p) c) noP) := by
  have hV := Valid_spec w0 hT p cs hf hR
  obtain ⟨A1, c1, A2, c2, rfl, h1, h2, h3, h4⟩ := hR.ex
  refine Spec.enter (args := [_]) Tryz.func52 rfl rfl rfl (fun F => ?_)
  refine kAutoB ?_
  (apply RL.boxR; exact kEv; exact rfl; intro b1)
  refine kAutoB ?_
  (apply RL.callIs; exact kEv; exact inferInstance; exact kEvl; exact hV; exact rfl)
  cases hv : validB p
  case false =>
    refine kAutoB ?_
    refine XJ.ret1 rfl rfl [] (by exact kGives) ⟨none, 0, ?_⟩
    rw [checkN, hv]; rfl
  refine kAutoB ?_
  refine RL.makeMap rfl Value.string (fun rs => ?_)
  rw [setM_none]
  refine kAutoB ?_
  (apply RL.build (r := .agg #[.int .i64 (-1), .map none, .map none, .map none, .slice none 0 0]); exact rfl; exact kEvl; (intro w; kernel_rfl); exact rfl)
  (apply RL.alloc; exact rfl; exact rfl; intro b4)
  (apply RL.storeA; exact kEv; exact kEv; exact kTake; exact rfl; exact rfl; exact rfl)
  refine kAutoB ?_
  generalize hcs : [Value.slice A1 p.shared.length c1, Value.slice A2 p.tasks.length c2] = pcs
  refine CJ.gives (row_nil 212 4) ?_
  refine CJ.loop (σ := Nat × Option Addr × Nat × Nat × List Value × (ByteArray → Bool)) (fun s => s.1 ≤ p.shared.length ∧ (s.2.2.1, s.2.2.2.2.2) = (p.shared.take s.1).foldl stepS (0, noneB) ∧ s.2.2.1 ≤ s.1)
    (fun s => [(20, .int .i64 (s.1 : Int)), (18, .slice A1 p.shared.length c1), (19, .int .i64 p.shared.length), (3, .map (some rs)), (4, .pointer (some ⟨b4, 0, none⟩)), (1, .pointer (some ⟨b1, 0, none⟩))])
    (fun s => cel b4 166 [.int .i64 (-1), .map none, .map none, .map none, .slice s.2.1 s.2.2.1 s.2.2.2.1] :: row 212 4 (.slice s.2.1 s.2.2.1 s.2.2.2.1) s.2.2.1 s.2.2.2.2.1 :: mp Value.string rs (setM s.2.2.2.2.2) :: rcel b1 25 pcs :: F)
    (fun s => p.shared.length - s.1) (0, none, 0, 0, [], noneB) ⟨Nat.zero_le _, by simp, Nat.le_refl _⟩ (by exact kEsub) (by exact kGives) ?_
  rintro ⟨i, Ao, k, co, xs, sh⟩ ⟨hi, hst, hk⟩
  simp only at hi hst hk
  have hsl := hf.shared
  have hvv := hv
  rw [validB, Bool.and_eq_true, Bool.and_eq_true, arrsB, Bool.and_eq_true] at hvv
  obtain ⟨⟨⟨hv1, hv2⟩, hv3⟩, hv4⟩ := hvv
  have hv1' : p.shared.length ≤ 4 := by have := of_decide_eq_true hv1; omega
  have hv3' : p.tasks.length ≤ 8 := by have := of_decide_eq_true hv3; omega
  refine kAutoB ?_
  cases hlt : decide ((i : Int) < (p.shared.length : Int))
  case true =>
    have hlt' : i < p.shared.length := by have := of_decide_eq_true hlt; omega
    obtain ⟨b, o, rfl, hrl, hb⟩ := h3.at_ i (by simpa using hlt')
    simp only [List.getElem_map, arrRow] at hb hrl
    refine kAutoB ?_
    apply RL.pur; (apply OpP.indexAddr; exact kEv; exact kEv; exact hlt'); exact rfl
    apply RL.pur; (apply OpP.loadA; exact kEv; exact HasAt.base hb; exact hrl); exact rfl
    (apply RL.alloc; exact rfl; exact rfl; intro b6)
    refine kAutoB ?_
    (apply RL.storeW; exact kEv; exact kEv; exact kTake; exact rfl; exact rfl; exact rfl)
    refine kAutoB ?_
    (refine CJ.cond (by exact kEv) (fun hh => ?_) (fun hh => ?_))
    · replace hh : sh p.shared[i].name = true := hh
      refine kAutoB ?_
      refine RL.gives (rrow_nil 3 1) ?_
      (apply RL.callK; exact kEv; exact inferInstance; exact kEvl; rotate_left; exact (add_spec w0 b4 (-1) (.map none) (.map none) (.map none) Ao k co xs none 0 0 [] 8 p.shared[i].name (by omega) (by omega)); rotate_right; exact (by (repeat (first | exact Takes.nil _ | (apply Takes.cons; (repeat (first | exact Takes.pers Pers.rmp | exact Takes.pers Pers.rrow | exact Takes.ro | exact Takes.here _ _ | apply Takes.there)))))); exact rfl)
      rintro _ _ ⟨rfl, A', c', xs', rfl⟩
      refine kAutoB ?_
      (apply RL.mapUpdate (enc := Value.string) (r := rs); exact kEv; exact kEv; exact kEv; exact kTake)
      rw [setM_upd]
      refine kAutoB ?_
      rw [i64_succ i (by omega)]
      refine XJ.round (i + 1, A', k + 1, c', xs', insB sh p.shared[i].name) ⟨by simp only; omega, ?_, by simp only; omega⟩ (by simp only; omega) (by exact kEsub) (by exact kGives)
      rw [foldl_take _ _ _ _ hlt', ← hst]
      simp [stepS, hh]
    · replace hh : sh p.shared[i].name = false := hh
      refine kAutoB ?_
      (apply RL.mapUpdate (enc := Value.string) (r := rs); exact kEv; exact kEv; exact kEv; exact kTake)
      rw [setM_upd]
      refine kAutoB ?_
      rw [i64_succ i (by omega)]
      refine XJ.round (i + 1, Ao, k, co, xs, insB sh p.shared[i].name) ⟨by simp only; omega, ?_, by simp only; omega⟩ (by simp only; omega) (by exact kEsub) (by exact kGives)
      rw [foldl_take _ _ _ _ hlt', ← hst]
      simp [stepS, hh]
  have hge : i = p.shared.length := by have := of_decide_eq_false hlt; omega
  subst hge
  rw [List.take_length] at hst
  have hsh : sharedB p = (k, sh) := by rw [hst]; rfl
  refine kAutoB ?_
  refine RL.makeMap rfl Value.string (fun rt => ?_)
  rw [setM_none]
  subst hcs
  refine kAutoB ?_
  refine CJ.frz (A := mp Value.string rs (setM sh)) (by exact kTake) Frz.mp ?_
  refine CJ.loop (σ := Nat × Option Addr × Nat × Nat × List Value × (ByteArray → Bool)) (fun s => s.1 ≤ p.tasks.length ∧ (s.2.2.1, s.2.2.2.2.2) = (p.tasks.take s.1).foldl (stepT sh) (k, noneB) ∧ s.2.2.1 ≤ 4 + 1000 * s.1)
    (fun s => [(41, .int .i64 (s.1 : Int)), (40, .int .i64 p.tasks.length), (39, .slice A2 p.tasks.length c2), (8, .map (some rt)), (3, .map (some rs)), (7, .slice s.2.1 s.2.2.1 s.2.2.2.1)])
    (fun s => row 212 4 (.slice s.2.1 s.2.2.1 s.2.2.2.1) s.2.2.1 s.2.2.2.2.1 :: mp Value.string rt (setM s.2.2.2.2.2) :: rmp Value.string rs (setM sh) :: F)
    (fun s => p.tasks.length - s.1) (0, Ao, k, co, xs, noneB) ⟨Nat.zero_le _, by simp, by simp only; omega⟩ (by exact kEsub) (by exact kGives) ?_
  rintro ⟨j, Ao2, k2, co2, xs2, T⟩ ⟨hj, hst2, hk2⟩
  simp only at hj hst2 hk2
  refine kAutoB ?_
  cases hlt : decide ((j : Int) < (p.tasks.length : Int))
  · have hge : j = p.tasks.length := by have := of_decide_eq_false hlt; omega
    subst hge
    rw [List.take_length] at hst2
    refine kAutoB ?_
    refine XJ.ret1 rfl rfl [] (by exact kGives) ⟨Ao2, co2, ?_⟩
    rw [checkN, if_pos hv, hsh, ← hst2]
  · have hlt' : j < p.tasks.length := by have := of_decide_eq_true hlt; omega
    obtain ⟨b, o, r, rfl, hb, hrl, hr⟩ := h4.at_ j hlt'
    have hfe := hf.each _ (List.getElem_mem hlt')
    have htb := List.all_eq_true.1 hv4 _ (List.getElem_mem hlt')
    obtain ⟨z1, z2, z3⟩ := task_sizes htb hfe.2.2
    have hr0 := hr
    obtain ⟨A5, c5, A6, c6, bs, rfl, g1, g2, g3, g4, g5⟩ := hr.ex
    have g50 := g5
    obtain ⟨A0, cap0, hbs, _⟩ := g5.kids
    subst hbs
    refine kAutoB ?_
    apply RL.pur; (apply OpP.indexAddr; exact kEv; exact kEv; exact hlt'); exact rfl
    apply RL.pur; (apply OpP.loadA; exact kEv; exact HasAt.base hb; exact hrl); exact rfl
    (apply RL.alloc; exact rfl; exact rfl; intro b10)
    refine kAutoB ?_
    (apply RL.storeW; exact kEv; exact kEv; exact kTake; exact rfl; exact rfl; exact rfl)
    refine kAutoB ?_
    refine RL.makeMap rfl Value.string (fun rv => ?_)
    refine RL.makeMap rfl Value.string (fun ra => ?_)
    rw [setM_none]
    refine kAutoB ?_
    (apply RL.build (r := .agg #[.int .i64 (j : Int), .map (some rv), .map (some ra), .map (some rs), .slice none 0 0]); exact rfl; exact kEvl; (intro w; kernel_rfl); exact rfl)
    (apply RL.alloc; exact rfl; exact rfl; intro b11)
    (apply RL.storeA; exact kEv; exact kEv; exact kTake; exact rfl; exact rfl; exact rfl)
    (repeat (first | (apply RL.pur; exact kPureB; exact rfl) | (refine RL.guardT rfl rfl ?_) | (refine RL.guardF rfl rfl rfl rfl ?_) | (refine RL.guardU rfl rfl rfl ?_) | refine RL.nil ?_))
    refine XJ.next ?_
    refine CJ.gives (row_nil 212 4) ?_
    refine CJ.seqI (σ := Option Addr × Nat × Nat × List Value) (fun s => s.2.1 = (if T p.tasks[j].name then 1 else 0)) (fun _ => [(10, .pointer (some ⟨b10, 0, none⟩)), (11, .pointer (some ⟨b11, 0, none⟩)), (41, .int .i64 (j : Int)), (40, .int .i64 p.tasks.length), (39, .slice (some ⟨b, o, none⟩) p.tasks.length c2), (8, .map (some rt)), (3, .map (some rs)), (7, .slice Ao2 k2 co2)])
      (fun s => cel b10 52 ([.string p.tasks[j].name, .int .i64 p.tasks[j].period, .slice A5 p.tasks[j].vars.length c5, .slice A6 p.tasks[j].arrays.length c6] ++ [.int .u8 p.tasks[j].body.kind, .int .i64 p.tasks[j].body.num, .string p.tasks[j].body.name, .slice A0 p.tasks[j].body.kids.length cap0]) :: (ckM b11 (j : Int) rv ra rs s.1 s.2.1 s.2.2.1 s.2.2.2 ++ (mp Value.string rv (setM noneB) :: mp Value.string ra (setM noneB) :: rmp Value.string rs (setM sh) :: row 212 4 (.slice Ao2 k2 co2) k2 xs2 :: mp Value.string rt (setM T) :: F))) ?_ ?_
    · refine kAutoB ?_
      (refine CJ.cond (by exact kEv) (fun hh => ?_) (fun hh => ?_))
      · replace hh : T p.tasks[j].name = true := hh
        refine kAutoB ?_
        refine RL.gives (rrow_nil 3 1) ?_
        (apply RL.callK; exact kEv; exact inferInstance; exact kEvl; rotate_left; exact (add_spec w0 b11 (j : Int) (.map (some rv)) (.map (some ra)) (.map (some rs)) none 0 0 [] none 0 0 [] 8 p.tasks[j].name (by omega) (by omega)); rotate_right; exact (by (repeat (first | exact Takes.nil _ | (apply Takes.cons; (repeat (first | exact Takes.pers Pers.rmp | exact Takes.pers Pers.rrow | exact Takes.ro | exact Takes.here _ _ | apply Takes.there)))))); exact rfl)
        rintro _ _ ⟨rfl, A', c', xs', rfl⟩
        refine kAutoB ?_
        refine XJ.meet (A', 0 + 1, c', xs') ?_ (by exact kEsub) (by exact kGives)
        simp [hh]
      · replace hh : T p.tasks[j].name = false := hh
        refine kAutoB ?_
        refine XJ.meet (none, 0, 0, []) ?_ (by exact kEsub) (by exact kGives)
        simp [hh]
    rintro ⟨A7, k7, c7, xs7⟩ hk7
    simp only at hk7
    have hk7' : k7 ≤ 1 := by rw [hk7]; split <;> omega
    refine kAutoB ?_
    (apply RL.mapUpdate (enc := Value.string) (r := rt); exact kEv; exact kEv; exact kEv; exact kTake)
    rw [setM_upd]
    refine kAutoB ?_
    have hdec := declare_spec w0 p.tasks[j] _ hr0 rfl (by omega) (by omega) b11 (j : Int) rv ra rs A7 k7 c7 xs7 ⟨noneB, noneB, sh⟩ (by omega)
    have hD : taskD sh T p.tasks[j] = declT (k7, ⟨noneB, noneB, sh⟩) p.tasks[j] := by rw [hk7]; rfl
    rw [← hD] at hdec
    have hDs : (taskD sh T p.tasks[j]).2.shared = sh := by rw [hD, declT_shared]
    have hDl := declT_le (k7, ⟨noneB, noneB, sh⟩) p.tasks[j]
    rw [← hD] at hDl
    simp only at hDl
    (apply RL.callK; exact kEv; exact inferInstance; exact kEvl; rotate_left; exact hdec; rotate_right; exact (by (repeat (first | exact Takes.nil _ | (apply Takes.cons; (repeat (first | exact Takes.pers Pers.rmp | exact Takes.pers Pers.rrow | exact Takes.ro | exact Takes.here _ _ | apply Takes.there)))))); exact rfl)
    rintro _ _ ⟨rfl, A8, c8, xs8, rfl⟩
    (repeat (first | (apply RL.pur; exact kPureB; exact rfl) | (refine RL.guardT rfl rfl ?_) | (refine RL.guardF rfl rfl rfl rfl ?_) | (refine RL.guardU rfl rfl rfl ?_) | refine RL.nil ?_))
    generalize hcd : taskD sh T p.tasks[j] = cd at *
    obtain ⟨kd, CD⟩ := cd
    simp only at hDs hDl
    refine XJ.frz (A := mp Value.string rv (setM CD.vars)) (by exact kTake) Frz.mp ?_
    refine XJ.frz (A := mp Value.string ra (setM CD.arrays)) (by exact kTake) Frz.mp ?_
    refine XJ.gives (rrow_nil 3 1) ?_
    refine XJ.gives (rrow_nil 9 1) ?_
    refine XJ.next ?_
    have hvl := visit_le CD p.tasks[j].body false ⟨CD.vars, noneB, []⟩
    have hstep : stepT sh (k2, T) p.tasks[j] = (k2 + (kd + visitN CD p.tasks[j].body false ⟨CD.vars, noneB, []⟩), insB T p.tasks[j].name) := by
      simp only [stepT, hcd]
    have hvis : ∀ q q2, Spec Tryz.prog w0 90 #[.pointer (some ⟨b11, 0, none⟩), .agg #[.int .u8 p.tasks[j].body.kind, .int .i64 p.tasks[j].body.num, .string p.tasks[j].body.name, .slice A0 p.tasks[j].body.kids.length cap0], .slice none 0 0, .bool false, .agg #[.map (some q), .map (some q2), .slice none 0 0]] _ _ := fun q q2 =>
      visit_spec w0 CD _ p.tasks[j].body _ (Nat.le_refl _) g50 (by omega) b11 (j : Int) rv ra rs A8 kd c8 xs8 ⟨CD.vars, noneB, []⟩ q q2 none 0 none 0 0 [] false (by omega) (by omega) (by simp only [List.length_nil]; omega) (by omega) (by simp)
    subst hDs
    refine CJ.seqI (σ := Nat × Option Addr × Nat × List Value) (fun s => s.1 = kd + visitN CD p.tasks[j].body false ⟨CD.vars, noneB, []⟩) (fun _ => [(11, .pointer (some ⟨b11, 0, none⟩)), (41, .int .i64 (j : Int)), (40, .int .i64 p.tasks.length), (39, .slice (some ⟨b, o, none⟩) p.tasks.length c2), (8, .map (some rt)), (3, .map (some rs)), (7, .slice Ao2 k2 co2)])
      (fun s => ckM b11 (j : Int) rv ra rs s.2.1 s.1 s.2.2.1 s.2.2.2 ++ (rmp Value.string rs (setM CD.shared) :: row 212 4 (.slice Ao2 k2 co2) k2 xs2 :: mp Value.string rt (setM (insB T p.tasks[j].name)) :: F)) ?_ ?_
    · refine CJ.draws mixed 8 [atp b11 1 (.map (some rv)), cel b10 52 _] (Gives.atp (by exact kTake) rfl (by exact kGives)) (dom_of (by kernel_rfl)) ?_
      ((first | refine kAjB 0 ?_ | refine kAjS 0 ?_); (first | refine kAjB 1 ?_ | refine kAjS 1 ?_); (first | refine kAjB 2 ?_ | refine kAjS 2 ?_))
      (apply AJ.pur (i := 3); exact rfl; exact rfl; exact rfl; exact rfl; exact rfl; exact rfl; exact rfl; exact rfl; exact rfl; (apply OpP.load; exact kEv; exact HasAt.atp (Takes.here _ _)))
      (refine AJ.loud2 (i := 4) (j := 5) (by kernel_rfl) (by kernel_rfl) rfl (by kernel_rfl) (by kernel_rfl) rfl rfl rfl rfl rfl rfl rfl rfl rfl rfl rfl rfl (OpS.callO (mclone_spec w0 rv (setM CD.vars) [rmp Value.string rv (setM CD.vars)] (fun M => HasMap.rmp (Takes.here _ _))) (by exact kEv) inferInstance (by exact kEvl) (by exact rfl) (by (repeat (first | exact Takes.nil _ | (apply Takes.cons; (repeat (first | exact Takes.pers Pers.rmp | exact Takes.pers Pers.rrow | exact Takes.ro | exact Takes.here _ _ | apply Takes.there))))))) (OpS.makeMap (enc := Value.string)) ?_ ?_ ?_ ?_)
      · rintro _ _ ⟨N, ⟨q, rfl, rfl⟩, rfl⟩
        refine ⟨Gives.atp (by exact kTake) rfl (by exact kGives), ?_⟩
        (refine AJ.loud1 (i := 5) (by kernel_rfl) (by kernel_rfl) rfl (by kernel_rfl) (by kernel_rfl) rfl rfl rfl rfl rfl rfl (OpS.makeMap (enc := Value.string)) ?_ ?_)
        · rintro _ _ ⟨q2, rfl, rfl⟩
          refine ⟨Gives.atp (by exact kTake) rfl (by exact kGives), ?_⟩
          rw [setM_none]
          (apply AJ.pur (i := 6); exact rfl; exact rfl; exact rfl; exact rfl; exact rfl; exact rfl; exact rfl; exact rfl; exact rfl; (refine OpP.build (xs := [.tmp 67, .tmp 68]) (vs := [.map (some q), .map (some q2)]) (r := .agg #[.map (some q), .map (some q2), .slice none 0 0]) (by exact kEvl) rfl (fun w => by kernel_rfl)))
          refine AJ.frz (A := mp Value.string q _) (by exact kTake) Frz.mp (Gives.atp (by exact kTake) rfl (by exact kGives)) ?_
          refine AJ.frz (A := mp Value.string q2 _) (by exact kTake) Frz.mp (Gives.atp (by exact kTake) rfl (by exact kGives)) ?_
          (refine AJ.loud1 (i := 7) (by kernel_rfl) (by kernel_rfl) rfl (by kernel_rfl) (by kernel_rfl) rfl rfl rfl rfl rfl rfl (OpS.callO (hvis q q2) (by exact kEv) inferInstance (by exact kEvl) (by exact rfl) (by (repeat (first | exact Takes.nil _ | (apply Takes.cons; (repeat (first | exact Takes.pers Pers.rmp | exact Takes.pers Pers.rrow | exact Takes.ro | exact Takes.here _ _ | apply Takes.there))))))) ?_ ?_)
          · rintro _ _ ⟨N, ⟨rfl, A9, c9, xs9, rfl⟩, rfl⟩
            refine ⟨Gives.atp (by exact kTake) rfl (by exact kGives), ?_⟩
            (refine AJ.done (by kernel_rfl) (by kernel_rfl) rfl (by kernel_rfl) ?_)
            exact XJ.meet (_, A9, c9, xs9) rfl (by exact kEsub) (by exact kGives)
          · rintro _ _ ⟨_, h, _⟩; exact h.elim
        · rintro _ _ h; exact h.elim
      · rintro _ _ ⟨_, h, _⟩; exact h.elim
      · rintro _ _ ⟨q2, rfl, rfl⟩
        refine ⟨Gives.atp (by exact kTake) rfl (by exact kGives), ?_⟩
        (refine AJ.loud1 (i := 4) (by kernel_rfl) (by kernel_rfl) rfl (by kernel_rfl) (by kernel_rfl) rfl rfl rfl rfl rfl rfl (OpS.callO (mclone_spec w0 rv (setM CD.vars) [rmp Value.string rv (setM CD.vars)] (fun M => HasMap.rmp (Takes.here _ _))) (by exact kEv) inferInstance (by exact kEvl) (by exact rfl) (by (repeat (first | exact Takes.nil _ | (apply Takes.cons; (repeat (first | exact Takes.pers Pers.rmp | exact Takes.pers Pers.rrow | exact Takes.ro | exact Takes.here _ _ | apply Takes.there))))))) ?_ ?_)
        · rintro _ _ ⟨N, ⟨q, rfl, rfl⟩, rfl⟩
          refine ⟨Gives.atp (by exact kTake) rfl (by exact kGives), ?_⟩
          rw [setM_none]
          (apply AJ.pur (i := 6); exact rfl; exact rfl; exact rfl; exact rfl; exact rfl; exact rfl; exact rfl; exact rfl; exact rfl; (refine OpP.build (xs := [.tmp 67, .tmp 68]) (vs := [.map (some q), .map (some q2)]) (r := .agg #[.map (some q), .map (some q2), .slice none 0 0]) (by exact kEvl) rfl (fun w => by kernel_rfl)))
          refine AJ.frz (A := mp Value.string q _) (by exact kTake) Frz.mp (Gives.atp (by exact kTake) rfl (by exact kGives)) ?_
          refine AJ.frz (A := mp Value.string q2 _) (by exact kTake) Frz.mp (Gives.atp (by exact kTake) rfl (by exact kGives)) ?_
          (refine AJ.loud1 (i := 7) (by kernel_rfl) (by kernel_rfl) rfl (by kernel_rfl) (by kernel_rfl) rfl rfl rfl rfl rfl rfl (OpS.callO (hvis q q2) (by exact kEv) inferInstance (by exact kEvl) (by exact rfl) (by (repeat (first | exact Takes.nil _ | (apply Takes.cons; (repeat (first | exact Takes.pers Pers.rmp | exact Takes.pers Pers.rrow | exact Takes.ro | exact Takes.here _ _ | apply Takes.there))))))) ?_ ?_)
          · rintro _ _ ⟨N, ⟨rfl, A9, c9, xs9, rfl⟩, rfl⟩
            refine ⟨Gives.atp (by exact kTake) rfl (by exact kGives), ?_⟩
            (refine AJ.done (by kernel_rfl) (by kernel_rfl) rfl (by kernel_rfl) ?_)
            exact XJ.meet (_, A9, c9, xs9) rfl (by exact kEsub) (by exact kGives)
          · rintro _ _ ⟨_, h, _⟩; exact h.elim
        · rintro _ _ ⟨_, h, _⟩; exact h.elim
      · rintro _ _ h; exact h.elim
    rintro ⟨k9, A9, c9, xs9⟩ hk9
    simp only at hk9
    refine kAutoB ?_
    refine RL.append (by exact kEv) (by exact kEv) (by exact kTake) (fun h m => row_src (w := w0) (by exact kTake) m) (by simp only [maxLen]; omega) (by omega) rfl (fun A' c' => ?_)
    refine kAutoB ?_
    rw [i64_succ j (by omega)]
    refine XJ.round (j + 1, A', k2 + k9, c', _, insB T p.tasks[j].name) ⟨by simp only; omega, ?_, ?_⟩ (by simp only; omega) (by exact kEsub) (by exact kGives)
    · rw [foldl_take _ _ _ _ hlt', ← hst2, hstep, hk9]
    · simp only; omega
theorem ok_spec (w0 : World) (hT : Tab w0) (p : Prg) (cs : List Value) (hf : Fit p) (hR : PrgR w0 p cs) :
    Spec Tryz.prog w0 19 #[.agg cs.toArray] [] (Is (.bool (okB p))) := by
  have hV := Valid_spec w0 hT p cs hf hR
  have hC := check_spec w0 hT p cs hf hR
  obtain ⟨A1, c1, A2, c2, rfl, h1, h2, h3, h4⟩ := hR.ex
  refine Spec.enter (args := [_]) Tryz.func19 rfl rfl rfl (fun F => ?_)
  refine kAutoB ?_
  (apply RL.boxR; exact kEv; exact rfl; intro b1)
  refine kAutoB ?_
  (apply RL.callIs; exact kEv; exact inferInstance; exact kEvl; exact hV; exact rfl)
  cases hv : validB p
  · refine kAutoB ?_
    refine XJ.ret1 rfl rfl [] (by exact kGives) ⟨?_, rfl⟩
    rw [okB, hv]; rfl
  · refine kAutoB ?_
    (apply RL.callK; exact kEv; exact inferInstance; exact kEvl; exact (Takes.nil _); exact hC; exact rfl)
    rintro _ N ⟨A, c, rfl⟩
    refine kAutoB ?_
    refine XJ.ret1 rfl rfl [] (Gives.skipApp (by exact kGives)) ⟨?_, rfl⟩
    rw [okB, hv]
    congr 1
    rw [Bool.eq_iff_iff]
    simp
end Go.Proofs.YtgmapenlgammfaaGreatDoor

/- Lists of numbers, lists of such lists: as they lie in the base, and as a function owns them. -/
namespace Go.Proofs.YtgmapenlgammfaaGreatDoor
open Go

def intV (x : Int) : Value := .int .i32 x
/-- A slice of numbers in the base. -/
def IntsR (w : World) (v : Value) (l : List Int) : Prop := ∃ A c, v = .slice A l.length c ∧ l.length ≤ c ∧ RowsB w 1 A ((l.map intV).map fun u => [u])
/-- A slice of slices of numbers in the base. -/
def MatR (w : World) (v : Value) (m : List (List Int)) : Prop := ∃ A c, ∃ vs : List Value, v = .slice A m.length c ∧ m.length ≤ c ∧ vs.length = m.length ∧ RowsB w 1 A (vs.map fun u => [u]) ∧ ∀ (i : Nat) (l : List Int) (u : Value), m[i]? = some l → vs[i]? = some u → IntsR w u l
def CubR (w : World) (v : Value) (q : List (List (List Int))) : Prop := ∃ A c, ∃ vs : List Value, v = .slice A q.length c ∧ q.length ≤ c ∧ vs.length = q.length ∧ RowsB w 1 A (vs.map fun u => [u]) ∧ ∀ (i : Nat) (m : List (List Int)) (u : Value), q[i]? = some m → vs[i]? = some u → MatR w u m
theorem IntsR.up {w0 w : World} {v : Value} {l : List Int} (h : IntsR w0 v l) (k : Go.RowKit.Below w0.heap.size w0 w) : IntsR w v l := by
  obtain ⟨A, c, h1, h2, h3⟩ := h
  exact ⟨A, c, h1, h2, h3.up k⟩
theorem MatR.up {w0 w : World} {v : Value} {m : List (List Int)} (h : MatR w0 v m) (k : Go.RowKit.Below w0.heap.size w0 w) : MatR w v m := by
  obtain ⟨A, c, vs, h1, h2, h3, h4, h5⟩ := h
  exact ⟨A, c, vs, h1, h2, h3, h4.up k, fun i l u e1 e2 => (h5 i l u e1 e2).up k⟩
theorem CubR.up {w0 w : World} {v : Value} {m : List (List (List Int))} (h : CubR w0 v m) (k : Go.RowKit.Below w0.heap.size w0 w) : CubR w v m := by
  obtain ⟨A, c, vs, h1, h2, h3, h4, h5⟩ := h
  exact ⟨A, c, vs, h1, h2, h3, h4.up k, fun i l u e1 e2 => (h5 i l u e1 e2).up k⟩
/-- The memory of a program. -/
structure Mem where
  arrays : List (List (List Int))
  shared : List (List Int)
def MemR (w : World) (cs : List Value) (m : Mem) : Prop := ∃ u v, cs = [u, v] ∧ CubR w u m.arrays ∧ MatR w v m.shared

section
attribute [local semireducible] HasAt Base
theorem base_src {w0 : World} {M : List HProp} {A : Option Addr} {n c : Nat} {xs : List Value} (hl : xs.length = n) (h1 : ∀ u ∈ xs, u.oneCell' = true) (h : RowsB w0 1 A (xs.map fun u => [u])) : Src w0 M 1 (.slice A n c) n xs := by
  refine ⟨by omega, h1, ?_⟩
  rcases Nat.eq_zero_or_pos n with h0 | h0
  · subst h0; exact .inl ⟨rfl, _, _, rfl⟩
  · obtain ⟨b, o, e, _⟩ := h 0 [xs[0]'(by omega)] (by simp)
    subst e
    refine .inr ⟨b, o, c, rfl, ?_⟩
    intro w _ _ s j v hv
    obtain ⟨b', o', e', _, hb⟩ := h j [v] (by simp [hv])
    cases e'
    have := cell_base s (hb 0 v rfl)
    simpa using this
end
/-- Lists of numbers, each owned. -/
def innerM : List Value → List (List Int) → List HProp
  | u :: us, l :: ls => row 21 1 u l.length (l.map intV) :: innerM us ls
  | _, _ => []
theorem innerM_snoc : ∀ (us : List Value) (ls : List (List Int)) (u : Value) (l : List Int), us.length = ls.length → innerM (us ++ [u]) (ls ++ [l]) = innerM us ls ++ [row 21 1 u l.length (l.map intV)]
  | [], [], u, l, _ => rfl
  | [], _ :: _, _, _, h => by simp at h
  | _ :: _, [], _, _, h => by simp at h
  | a :: us, b :: ls, u, l, h => by
    simp only [List.cons_append, innerM]
    rw [innerM_snoc us ls u l (by simpa using h)]
section
attribute [local semireducible] Gives
theorem Gives.move {A : HProp} {X F : List HProp} : Gives (A :: (X ++ F)) ((X ++ [A]) ++ F) := fun h s => by
  refine star.perm ?_ s
  rw [List.append_assoc]
  exact List.perm_middle.symm
end
theorem oneInt (l : List Int) : ∀ u ∈ l.map intV, u.oneCell' = true := by
  intro u hu
  obtain ⟨x, _, rfl⟩ := List.mem_map.1 hu
  rfl
theorem copied_spec (w0 : World) (v : Value) (m : List (List Int)) (hR : MatR w0 v m) (hm : m.length ≤ 1000000000) (hl : ∀ l ∈ m, l.length ≤ 1000000000) :
    Spec Tryz.prog w0 47 #[v] [] (Ret (fun u N => ∃ A c us, u = .slice A m.length c ∧ us.length = m.length ∧ N = row 30 1 u m.length us :: innerM us m) noP) := by
  obtain ⟨A, c, vs, rfl, hc, hvl, hrows, hins⟩ := hR
  refine Spec.enter (args := [_]) Tryz.func47 rfl rfl rfl (fun F => ?_)
  refine kAutoB ?_
  refine CJ.gives (row_nil 30 1) ?_
  refine CJ.loop (σ := Nat × Option Addr × Nat × List Value) (fun s => s.1 ≤ m.length ∧ s.2.2.2.length = s.1) (fun s => [(8, .int .i64 (s.1 : Int)), (6, .slice A m.length c), (7, .int .i64 m.length), (3, .slice s.2.1 s.1 s.2.2.1)])
    (fun s => row 30 1 (.slice s.2.1 s.1 s.2.2.1) s.1 s.2.2.2 :: (innerM s.2.2.2 (m.take s.1) ++ F)) (fun s => m.length - s.1) (0, none, 0, []) ⟨Nat.zero_le _, rfl⟩ (by exact kEsub) (by exact kGives) ?_
  rintro ⟨i, Ao, co, us⟩ ⟨hi, hus⟩
  simp only at hi hus
  refine kAutoB ?_
  cases hlt : decide ((i : Int) < (m.length : Int))
  · have hge : i = m.length := by have := of_decide_eq_false hlt; omega
    subst hge
    refine kAutoB ?_
    refine XJ.ret1 rfl rfl (row 30 1 (.slice Ao m.length co) m.length us :: innerM us m) ?_ ⟨Ao, co, us, rfl, hus, rfl⟩
    simp only [List.take_length]
    exact Gives.refl _
  · have hlt' : i < m.length := by have := of_decide_eq_true hlt; omega
    obtain ⟨b, o, e, hrl, hb⟩ := hrows.at_ i (by simpa using (by omega : i < vs.length))
    subst e
    simp only [List.getElem_map] at hb
    obtain ⟨A1, c1, hv1, hc1, hr1⟩ := hins i m[i] (vs[i]'(by omega)) (by simp [hlt']) (by simp [show i < vs.length by omega])
    rw [hv1] at hb
    have hli := hl _ (List.getElem_mem hlt')
    refine kAutoB ?_
    apply RL.pur; (apply OpP.indexAddr; exact kEv; exact kEv; exact hlt'); exact rfl
    apply RL.pur; (apply OpP.load; exact kEv; exact HasAt.base hb); exact rfl
    refine kAutoB ?_
    (apply RL.buildSlice; exact rfl; exact kEvl; exact rfl; (intro w; kernel_rfl); exact rfl; intro b2)
    refine RL.gives (row_of_cel (n := 0) (sz := 1) rfl (by simp) (by decide) _) ?_
    refine kAutoB ?_
    refine RL.append (by exact kEv) (by exact kEv) (Takes.here _ _) (fun h _ => base_src (by simp) (oneInt m[i]) hr1) (by simp only [maxLen]; omega) (by omega) rfl (fun A2 c2 => ?_)
    refine kAutoB ?_
    (apply RL.buildSlice; exact rfl; exact kEvl; exact rfl; (intro w; kernel_rfl); exact rfl; intro b3)
    rw [Nat.zero_add]
    rw [List.nil_append]
    refine RL.append (by exact kEv) (by exact kEv) (by exact kTake) (fun h _ => ⟨rfl, (fun u hu => by simp at hu; subst hu; rfl), .inr ⟨_, _, _, rfl, HasAt.pt (Takes.here _ _) atAll⟩⟩) (m := 1) (by simp only [maxLen]; omega) (by omega) rfl (fun A4 c4 => ?_)
    refine kAutoB ?_
    rw [i64_succ i (by omega)]
    refine XJ.round (i + 1, A4, c4, us ++ [.slice A2 m[i].length c2]) ⟨by simp only; omega, by simp [hus]⟩ (by simp only; omega) (by exact kEsub) ?_
    simp only
    rw [List.take_succ_eq_append_getElem hlt', innerM_snoc us (m.take i) _ m[i] (by simp; omega)]
    exact Gives.cons (Takes.here _ _) (Gives.drop Gives.move)
end Go.Proofs.YtgmapenlgammfaaGreatDoor

/- The package interp: the value of an expression, over maps and arrays of the base. -/
namespace Go.Proofs.YtgmapenlgammfaaGreatDoor
open Go

theorem array_spec (w0 : World) (rv ra : Nat) (α : ByteArray → Option Value) (hα : MapB w0 Value.string ra α) (name : ByteArray) :
    Spec Tryz.prog w0 100 #[.agg #[.map (some rv), .map (some ra)], .string name] [] (IsE (match α name with | none => .error (stopV 6) | some v => .ok v)) := by
  refine Spec.enter (args := [_, _]) Tryz.func100 rfl rfl rfl (fun F => ?_)
  refine kAutoB ?_
  (apply RL.boxR; exact kEv; exact rfl; intro b2)
  refine kAutoB ?_
  cases h : α name with
  | none =>
    apply RL.pur; (apply OpP.lookupNone; exact kEv; exact kEv; exact hα.has; exact h); exact rfl
    refine kAutoB ?_
    (apply RL.callE; exact kEv; exact inferInstance; exact kEvl; exact (fail_spec w0 6); exact rfl)
    · intro v hv
      cases hv
    · intro c hc
      simp at hc
      subst hc
      refine kAutoB ?_
      exact XJ.panics [] (by exact kGives) ⟨rfl, rfl⟩
  | some v =>
    apply RL.pur; (apply OpP.lookupSome; exact kEv; exact kEv; exact hα.has; exact h); exact rfl
    refine kAutoB ?_
    exact XJ.ret1 rfl rfl [] (by exact kGives) ⟨rfl, rfl⟩
/-- Whether i is an index of a list of n. -/
def idxB (i : Int) (n : Nat) : Bool := !decide (i < 0) && !decide (IntKind.i64.wrap i ≥ (n : Int))
theorem index_spec16 (w0 : World) (i : Int) (A : Option Addr) (n c : Nat) :
    Spec Tryz.prog w0 101 #[.int .i32 i, .slice A n c] [] (IsE (if idxB i n then .ok (.int .i64 (IntKind.i64.wrap i)) else .error (stopV 11))) := by
  refine Spec.enter (args := [_, _]) Tryz.func101 rfl rfl rfl (fun F => ?_)
  refine kAutoB ?_
  cases h1 : decide (i < 0)
  · refine kAutoB ?_
    cases h2 : decide (IntKind.i64.wrap i ≥ (n : Int))
    · refine kAutoB ?_
      exact XJ.ret1 rfl rfl [] (by exact kGives) ⟨by rw [idxB, h1, h2]; rfl, rfl⟩
    · refine kAutoB ?_
      (apply RL.callE; exact kEv; exact inferInstance; exact kEvl; exact (fail_spec w0 11); exact rfl)
      · intro v hv
        cases hv
      · intro c hc
        simp at hc
        subst hc
        refine kAutoB ?_
        exact XJ.panics [] (by exact kGives) ⟨by rw [idxB, h1, h2]; rfl, rfl⟩
  · refine kAutoB ?_
    (apply RL.callE; exact kEv; exact inferInstance; exact kEvl; exact (fail_spec w0 11); exact rfl)
    · intro v hv
      cases hv
    · intro c hc
      simp at hc
      subst hc
      refine kAutoB ?_
      exact XJ.panics [] (by exact kGives) ⟨by rw [idxB, h1]; rfl, rfl⟩
/-- The value of a node, from its children's; errors are numbers. -/
def evalOp (ρ : ByteArray → Option Int) (α : ByteArray → Option (List Int)) (k n : Int) (s : ByteArray) (vs : List (Except Int Int)) : Except Int Int :=
  if k = 1 then .ok (IntKind.i32.wrap n)
  else if k = 2 then (match ρ s with | none => .error 6 | some v => .ok v)
  else if k = 3 then (match α s with
    | none => .error 6
    | some l => match vs.getD 0 (.error 0) with
      | .error e => .error e
      | .ok i => if idxB i l.length then .ok (l.getD (IntKind.i64.wrap i).toNat 0) else .error 11)
  else if k = 4 ∨ k = 5 then (match vs.getD 0 (.error 0) with
    | .error e => .error e
    | .ok x => if (unaryI k x).2 = 0 then .ok (unaryI k x).1 else .error (unaryI k x).2)
  else match vs.getD 0 (.error 0) with
    | .error e => .error e
    | .ok x => match vs.getD 1 (.error 0) with
      | .error e => .error e
      | .ok y => if (applyI k x y).2 = 0 then .ok (applyI k x y).1 else .error (applyI k x y).2
mutual
def evalE (ρ : ByteArray → Option Int) (α : ByteArray → Option (List Int)) : Node → Except Int Int
  | .mk k n s kids => evalOp ρ α k n s (evalL ρ α kids)
def evalL (ρ : ByteArray → Option Int) (α : ByteArray → Option (List Int)) : List Node → List (Except Int Int)
  | [] => []
  | n :: r => evalE ρ α n :: evalL ρ α r
end
def I32 (x : Int) : Prop := -2147483648 ≤ x ∧ x ≤ 2147483647
/-- Variables and arrays as maps of the base. -/
structure EnvB (w : World) (rv ra : Nat) (ρ : ByteArray → Option Int) (α : ByteArray → Option (List Int)) : Prop where
  vars : MapB w Value.string rv (fun s => (ρ s).map intV)
  arrs : ∃ αv : ByteArray → Option Value, MapB w Value.string ra αv ∧ (∀ s, α s = none → αv s = none) ∧ ∀ s l, α s = some l → ∃ u, αv s = some u ∧ IntsR w u l
  r1 : ∀ s v, ρ s = some v → I32 v
  r2 : ∀ s l, α s = some l → ∀ x ∈ l, I32 x
def resE (r : Except Int Int) : Except (List PanicEntry) Value := match r with
  | .ok v => .ok (.int .i32 v)
  | .error e => .error (stopV e)
theorem kidsB_one {kids : List Node} {c : Int} (h : kidsB kids [c] = true) : ∃ a, kids = [a] ∧ isB a c = true := by
  match kids, h with
  | [], h => simp [kidsB] at h
  | [a], h => simp [kidsB] at h; exact ⟨a, rfl, h⟩
  | a :: b :: r, h => simp [kidsB] at h
theorem kidsB_two {kids : List Node} {c d : Int} (h : kidsB kids [c, d] = true) : ∃ a b, kids = [a, b] ∧ isB a c = true ∧ isB b d = true := by
  match kids, h with
  | [], h => simp [kidsB] at h
  | [a], h => simp [kidsB] at h
  | [a, b], h => simp [kidsB] at h; exact ⟨a, b, rfl, h.1, h.2⟩
  | a :: b :: d :: r, h => simp [kidsB] at h
theorem kidsB_nil {kids : List Node} (h : kidsB kids [] = true) : kids = [] := by
  match kids, h with
  | [], _ => rfl
  | a :: r, h => simp [kidsB] at h
/-- The shapes of an expression. -/
theorem expr_cases {k n : Int} {s : ByteArray} {kids : List Node} (h : isB (.mk k n s kids) 1 = true) :
    (k = 1 ∧ kids = []) ∨ (k = 2 ∧ kids = []) ∨ (k = 3 ∧ ∃ a, kids = [a] ∧ isB a 1 = true) ∨ ((k = 4 ∨ k = 5) ∧ ∃ a, kids = [a] ∧ isB a 1 = true) ∨ ((6 ≤ k ∧ k ≤ 23) ∧ ∃ a b, kids = [a, b] ∧ isB a 1 = true ∧ isB b 1 = true) := by
  rw [isB] at h
  by_cases h47 : k = 47
  · rw [if_pos h47] at h
    rw [show (bitAnd .u8 1 8 != 0) = false by decide] at h
    exact absurd h (by rw [Bool.false_and, Bool.false_and, Bool.false_and]; decide)
  rw [if_neg h47] at h
  cases hf : formOf k with
  | none => rw [hf] at h; cases h
  | some f =>
    rw [hf] at h
    simp only [Bool.and_eq_true] at h
    obtain ⟨⟨⟨⟨⟨h1, -⟩, -⟩, -⟩, -⟩, h2⟩ := h
    unfold formOf at hf
    have no : ∀ z : Int, bitAnd .u8 4 1 = 0 := fun _ => by decide
    by_cases e : k = 46
    · rw [if_pos e] at hf; injection hf with hf; subst hf; exact absurd h1 (by rw [no 0]; decide)
    rw [if_neg e] at hf
    by_cases e : k = 45
    · rw [if_pos e] at hf; injection hf with hf; subst hf; exact absurd h1 (by rw [no 0]; decide)
    rw [if_neg e] at hf
    by_cases e : k = 44
    · rw [if_pos e] at hf; injection hf with hf; subst hf; exact absurd h1 (by rw [no 0]; decide)
    rw [if_neg e] at hf
    by_cases e : k = 43
    · rw [if_pos e] at hf; injection hf with hf; subst hf; exact absurd h1 (by rw [no 0]; decide)
    rw [if_neg e] at hf
    by_cases e : k = 42
    · rw [if_pos e] at hf; injection hf with hf; subst hf; exact absurd h1 (by rw [no 0]; decide)
    rw [if_neg e] at hf
    by_cases e : k = 41
    · rw [if_pos e] at hf; injection hf with hf; subst hf; exact absurd h1 (by rw [no 0]; decide)
    rw [if_neg e] at hf
    by_cases e : k = 40
    · rw [if_pos e] at hf; injection hf with hf; subst hf; exact absurd h1 (by rw [no 0]; decide)
    rw [if_neg e] at hf
    by_cases e : k = 5
    · rw [if_pos e] at hf; injection hf with hf; subst hf; exact .inr (.inr (.inr (.inl ⟨.inr e, kidsB_one h2⟩)))
    rw [if_neg e] at hf
    by_cases e : k = 4
    · rw [if_pos e] at hf; injection hf with hf; subst hf; exact .inr (.inr (.inr (.inl ⟨.inl e, kidsB_one h2⟩)))
    rw [if_neg e] at hf
    by_cases e : k = 3
    · rw [if_pos e] at hf; injection hf with hf; subst hf; exact .inr (.inr (.inl ⟨e, kidsB_one h2⟩))
    rw [if_neg e] at hf
    by_cases e : k = 2
    · rw [if_pos e] at hf; injection hf with hf; subst hf; exact .inr (.inl ⟨e, kidsB_nil h2⟩)
    rw [if_neg e] at hf
    by_cases e : k = 1
    · rw [if_pos e] at hf; injection hf with hf; subst hf; exact .inl ⟨e, kidsB_nil h2⟩
    rw [if_neg e] at hf
    by_cases e : 6 ≤ k ∧ k ≤ 23
    · rw [if_pos e] at hf; injection hf with hf; subst hf; exact .inr (.inr (.inr (.inr ⟨e, kidsB_two h2⟩)))
    · rw [if_neg e] at hf; cases hf
end Go.Proofs.YtgmapenlgammfaaGreatDoor

/- The values of expressions are words. -/
namespace Go.Proofs.YtgmapenlgammfaaGreatDoor
open Go
theorem I32.wrap (x : Int) : I32 (IntKind.i32.wrap x) := by
  unfold I32
  simp only [IntKind.wrap, IntKind.signed, IntKind.bits]
  simp
  split <;> omega
theorem I32.truth (b : Bool) : I32 (truthI b) := by cases b <;> (unfold I32 truthI; decide)
theorem I32.zero : I32 0 := by unfold I32; decide
theorem unary_range (op x : Int) : I32 (unaryI op x).1 := by
  unfold unaryI
  split
  · exact .wrap _
  · split
    · exact .truth _
    · exact .zero
theorem cmp_range (op x y : Int) : ∀ v, cmpI op x y = some v → I32 v := by
  intro v h
  unfold cmpI at h
  repeat (split at h; · injection h with h; subst h; exact .truth _)
  cases h
theorem tmod_range {x : Int} (h : I32 x) (y : Int) : I32 (x.tmod y) := by
  unfold I32 at *
  have h1 := Int.natAbs_tmod x y
  have h2 := Nat.mod_le x.natAbs y.natAbs
  rcases Int.le_total 0 x with hx | hx
  · have := Int.tmod_nonneg y hx
    omega
  · have := Int.tmod_nonneg y (show 0 ≤ -x by omega)
    rw [Int.neg_tmod] at this
    omega
theorem shr_range {x : Int} (h : I32 x) (j : Int) : I32 (shrI .i32 x j) := by
  unfold I32 shrI at *
  have hp : (0 : Int) < 2 ^ (min j.toNat IntKind.i32.bits) := Int.pow_pos (by decide)
  generalize (2 : Int) ^ (min j.toNat IntKind.i32.bits) = d at hp
  rw [Int.fdiv_eq_ediv_of_nonneg _ (by omega)]
  have h1 := Int.mul_ediv_add_emod x d
  have h2 := Int.emod_nonneg x (show d ≠ 0 by omega)
  have h3 := Int.emod_lt_of_pos x hp
  constructor
  · rcases Int.lt_or_le (x / d) (-2147483648) with hh | hh
    · have : d * (x / d) ≤ d * (-2147483649) := Int.mul_le_mul_of_nonneg_left (by omega) (by omega)
      omega
    · exact hh
  · rcases Int.lt_or_le 2147483647 (x / d) with hh | hh
    · have : d * 2147483648 ≤ d * (x / d) := Int.mul_le_mul_of_nonneg_left (by omega) (by omega)
      omega
    · exact hh
theorem apply_range (op x y : Int) (hx : I32 x) : I32 (applyI op x y).1 := by
  unfold applyI
  repeat' split
  all_goals first | exact .wrap _ | exact .zero | exact tmod_range hx _ | exact shr_range hx _ | (rename_i h; exact cmp_range _ _ _ _ h)
theorem evalOp_range {ρ : ByteArray → Option Int} {α : ByteArray → Option (List Int)} (h1 : ∀ s v, ρ s = some v → I32 v) (h2 : ∀ s l, α s = some l → ∀ x ∈ l, I32 x) (k n : Int) (s : ByteArray) (vs : List (Except Int Int)) (hv : ∀ v, .ok v ∈ vs → I32 v) : ∀ v, evalOp ρ α k n s vs = .ok v → I32 v := by
  have hg : ∀ i v, vs.getD i (.error 0) = .ok v → I32 v := by
    intro i v h
    rw [List.getD_eq_getElem?_getD] at h
    cases e : vs[i]? with
    | none => rw [e] at h; cases h
    | some u => rw [e] at h; simp at h; subst h; exact hv v (List.mem_of_getElem? e)
  intro v h
  unfold evalOp at h
  split at h
  · injection h with h; subst h; exact .wrap _
  split at h
  · cases e : ρ s with
    | none => rw [e] at h; cases h
    | some u => rw [e] at h; injection h with h; subst h; exact h1 s _ e
  split at h
  · cases e : α s with
    | none => rw [e] at h; cases h
    | some l =>
      rw [e] at h
      simp only at h
      cases e2 : vs.getD 0 (.error 0) with
      | error _ => rw [e2] at h; cases h
      | ok i =>
        rw [e2] at h
        simp only at h
        split at h
        · injection h with h
          subst h
          rw [List.getD_eq_getElem?_getD]
          cases e3 : l[(IntKind.i64.wrap i).toNat]? with
          | none => exact .zero
          | some u => exact h2 s l e u (List.mem_of_getElem? e3)
        · cases h
  split at h
  · cases e2 : vs.getD 0 (.error 0) with
    | error _ => rw [e2] at h; cases h
    | ok i =>
      rw [e2] at h
      simp only at h
      split at h
      · injection h with h; subst h; exact unary_range _ _
      · cases h
  · cases e2 : vs.getD 0 (.error 0) with
    | error _ => rw [e2] at h; cases h
    | ok x =>
      rw [e2] at h
      simp only at h
      cases e3 : vs.getD 1 (.error 0) with
      | error _ => rw [e3] at h; cases h
      | ok y =>
        rw [e3] at h
        simp only at h
        split at h
        · injection h with h; subst h; exact apply_range _ _ _ (hg 0 x e2)
        · cases h
mutual
theorem evalE_range {ρ : ByteArray → Option Int} {α : ByteArray → Option (List Int)} (h1 : ∀ s v, ρ s = some v → I32 v) (h2 : ∀ s l, α s = some l → ∀ x ∈ l, I32 x) : ∀ (n : Node) v, evalE ρ α n = .ok v → I32 v
  | .mk k n s kids => by rw [evalE]; exact evalOp_range h1 h2 k n s _ (evalL_range h1 h2 kids)
theorem evalL_range {ρ : ByteArray → Option Int} {α : ByteArray → Option (List Int)} (h1 : ∀ s v, ρ s = some v → I32 v) (h2 : ∀ s l, α s = some l → ∀ x ∈ l, I32 x) : ∀ (l : List Node) v, .ok v ∈ evalL ρ α l → I32 v
  | [], v, h => by simp [evalL] at h
  | n :: r, v, h => by
    rw [evalL] at h
    rcases List.mem_cons.1 h with h | h
    · exact evalE_range h1 h2 n v h.symm
    · exact evalL_range h1 h2 r v h
end
end Go.Proofs.YtgmapenlgammfaaGreatDoor

/- The execution of statements as plain Lean: states, statements, blocks; what every execution keeps. -/
namespace Go.Proofs.YtgmapenlgammfaaGreatDoor
open Go

/-- The state of a job. -/
structure JS where
  vars : ByteArray → Option Int
  cells : List (List Int)
  out : List (Int × Int)
  read : Nat
  steps : Nat
/-- What a job's state stands in: where an array's cells are, the values to receive, the fuel. -/
structure JE where
  ix : ByteArray → Option Nat
  inp : List Int
  fuel : Int
abbrev JR := JS × Option Int
def bindJ (r : JR) (f : JS → JR) : JR := match r.2 with
  | none => f r.1
  | some e => (r.1, some e)
def noJ (s : JS) : JR := (s, none)
def updI (m : ByteArray → Option Int) (k : ByteArray) (v : Int) : ByteArray → Option Int := fun j => if j = k then some v else m j
def delI (m : ByteArray → Option Int) (k : ByteArray) : ByteArray → Option Int := fun j => if j = k then none else m j
def envA (E : JE) (s : JS) : ByteArray → Option (List Int) := fun nm => (E.ix nm).map fun i => s.cells.getD i []
def evJ (E : JE) (s : JS) (n : Node) : Except Int Int := evalE s.vars (envA E s) n
def stepJ (E : JE) (s : JS) : JR := if (s.steps : Int) ≥ E.fuel then (s, some 13) else ({ s with steps := s.steps + 1 }, none)
def setVar (s : JS) (nm : ByteArray) (v : Int) : JS := { s with vars := updI s.vars nm v }
def setCell (s : JS) (a : Nat) (i v : Int) : JS := { s with cells := s.cells.set a ((s.cells.getD a []).set i.toNat v) }
def recvJ (E : JE) (s : JS) : JS × Except Int Int := ({ s with read := s.read + 1 }, .ok (E.inp.getD s.read 0))
def kid (l : List Node) (i : Nat) : Node := l.getD i node0
/-- A store into a place; g gives the value. -/
def storeJ (E : JE) (place : Node) (early : Bool) (g : JS → JS × Except Int Int) (s : JS) : JR :=
  if place.kind = 2 then match g s with
    | (s1, .error e) => (s1, some e)
    | (s1, .ok v) => (setVar s1 place.name v, none)
  else match E.ix place.name with
    | none => (s, some 6)
    | some a => match evJ E s (kid place.kids 0) with
      | .error e => (s, some e)
      | .ok i =>
        if early then match g s with
          | (s1, .error e) => (s1, some e)
          | (s1, .ok v) => if idxB i (s.cells.getD a []).length then (setCell s1 a i v, none) else (s1, some 11)
        else if idxB i (s.cells.getD a []).length then match g s with
          | (s1, .error e) => (s1, some e)
          | (s1, .ok v) => (setCell s1 a i v, none)
        else (s, some 11)
def seqJ : List (JS → JR) → JS → JR
  | [], s => (s, none)
  | f :: r, s => bindJ (f s) (seqJ r)
/-- The rounds of a For statement from round i, k are left. -/
def forJ (E : JE) (nm : ByteArray) (body : JS → JR) : Nat → Int → JS → JR
  | 0, _, s => ({ s with vars := delI s.vars nm }, none)
  | k + 1, i, s => bindJ (stepJ E s) fun s => bindJ (body (setVar s nm (IntKind.i32.wrap i))) (forJ E nm body k (i + 1))
def ifJ (E : JE) (c : Node) (a b : JS → JR) (s : JS) : JR := match evJ E s c with
  | .error e => (s, some e)
  | .ok v => if v = 0 then b s else a s
/-- The rounds of a While statement, k may be left. -/
def whileJ (E : JE) (c : Node) (body : JS → JR) : Nat → JS → JR
  | 0 => fun s => bindJ (stepJ E s) (ifJ E c (fun s => (s, some 11)) noJ)
  | k + 1 => fun s => bindJ (stepJ E s) (ifJ E c (fun s => bindJ (body s) (whileJ E c body k)) noJ)
def outJ (E : JE) (c : Node) (port : Int) (s : JS) : JR := match evJ E s c with
  | .error e => (s, some e)
  | .ok v => ({ s with out := s.out ++ [(port, v)] }, none)
def stmtJ (E : JE) (k num : Int) (nm : ByteArray) (kids : List Node) (ks : List (JS → JR)) (s : JS) : JR :=
  if k = 40 then storeJ E (kid kids 0) true (fun s => (s, evJ E s (kid kids 1))) s
  else if k = 41 then ifJ E (kid kids 0) (ks.getD 1 noJ) (ks.getD 2 noJ) s
  else if k = 42 then forJ E nm (ks.getD 0 noJ) num.toNat 0 s
  else if k = 43 then whileJ E (kid kids 0) (ks.getD 1 noJ) num.toNat s
  else if k = 44 then storeJ E (kid kids 0) false (recvJ E) s
  else if k = 45 then outJ E (kid kids 0) num s
  else if k = 46 then ks.getD 0 noJ s
  else (s, none)
def nodeJ (E : JE) (k num : Int) (nm : ByteArray) (kids : List Node) (ks : List (JS → JR)) (s : JS) : JR :=
  if k = 47 then seqJ ks s else bindJ (stepJ E s) (stmtJ E k num nm kids ks)
mutual
/-- A statement, or a block. -/
def execN (E : JE) : Node → JS → JR
  | .mk k n s kids => nodeJ E k n s kids (execL E kids)
def execL (E : JE) : List Node → List (JS → JR)
  | [] => []
  | n :: r => execN E n :: execL E r
end
theorem execL_map (E : JE) (l : List Node) : execL E l = l.map (execN E) := by
  induction l with
  | nil => rfl
  | cons n r ih => simp [execL, ih]
theorem bindJ_none {r : JR} {f : JS → JR} (h : r.2 = none) : bindJ r f = f r.1 := by unfold bindJ; rw [h]
theorem bindJ_some {r : JR} {f : JS → JR} {e : Int} (h : r.2 = some e) : bindJ r f = (r.1, some e) := by unfold bindJ; rw [h]


/-! ### what is closed under the forms of statements holds for all executions -/
abbrev JF := JE → JS → JR
structure Closed (P : JF → Prop) : Prop where
  no : P (fun _ s => (s, none))
  bind : ∀ f g : JF, P f → P g → P (fun E s => bindJ (f E s) (g E))
  step : P stepJ
  bound : P (fun _ s => (s, some 11))
  var : ∀ nm v, I32 v → P (fun _ s => (setVar s nm v, none))
  del : ∀ nm, P (fun _ s => ({ s with vars := delI s.vars nm }, none))
  test : ∀ c (f g : JF), P f → P g → P (fun E s => ifJ E c (f E) (g E) s)
  out : ∀ c port, P (fun E s => bindJ (stepJ E s) (outJ E c port))
  assign : ∀ place c, P (fun E s => bindJ (stepJ E s) (storeJ E place true (fun s => (s, evJ E s c))))
  inp : ∀ place, P (fun E s => bindJ (stepJ E s) (storeJ E place false (recvJ E)))
section
variable {P : JF → Prop}
theorem Closed.seq (C : Closed P) : ∀ fs : List JF, (∀ f ∈ fs, P f) → P (fun E => seqJ (fs.map (· E)))
  | [], _ => C.no
  | f :: r, h => C.bind f (fun E => seqJ (r.map fun g : JF => g E)) (h f (by simp)) (C.seq r fun g hg => h g (by simp [hg]))
theorem Closed.for_ (C : Closed P) (nm : ByteArray) (body : JF) (hb : P body) : ∀ k i, P (fun E => forJ E nm (body E) k i)
  | 0, _ => C.del nm
  | k + 1, i => C.bind stepJ (fun E s => bindJ (body E (setVar s nm (IntKind.i32.wrap i))) (forJ E nm (body E) k (i + 1))) C.step
      (C.bind (fun E s => body E (setVar s nm (IntKind.i32.wrap i))) (fun E => forJ E nm (body E) k (i + 1)) (C.bind (fun _ s => (setVar s nm (IntKind.i32.wrap i), none)) body (C.var nm _ (I32.wrap i)) hb) (C.for_ nm body hb k (i + 1)))
theorem Closed.while_ (C : Closed P) (c : Node) (body : JF) (hb : P body) : ∀ k, P (fun E => whileJ E c (body E) k)
  | 0 => C.bind stepJ (fun E => ifJ E c (fun s => (s, some 11)) noJ) C.step (C.test c (fun _ s => (s, some 11)) (fun _ => noJ) C.bound C.no)
  | k + 1 => C.bind stepJ (fun E => ifJ E c (fun s => bindJ (body E s) (whileJ E c (body E) k)) noJ) C.step
      (C.test c (fun E s => bindJ (body E s) (whileJ E c (body E) k)) (fun _ => noJ) (C.bind body (fun E => whileJ E c (body E) k) hb (C.while_ c body hb k)) C.no)
theorem Closed.op (C : Closed P) (k num : Int) (nm : ByteArray) (kids : List Node) (fs : List JF) (h : ∀ f ∈ fs, P f) : P (fun E => nodeJ E k num nm kids (fs.map (· E))) := by
  have hg : ∀ i, P (fun E => (fs.map (· E)).getD i noJ) := by
    intro i
    cases e : fs[i]? with
    | none =>
      have : (fun E : JE => (fs.map (· E)).getD i noJ) = fun _ s => (s, none) := by
        funext E s
        rw [List.getD_eq_getElem?_getD, List.getElem?_map, e]
        rfl
      rw [this]
      exact C.no
    | some f =>
      have : (fun E : JE => (fs.map (· E)).getD i noJ) = f := by
        funext E s
        rw [List.getD_eq_getElem?_getD, List.getElem?_map, e]
        rfl
      rw [this]
      exact h f (List.mem_of_getElem? e)
  by_cases h47 : k = 47
  · have : (fun E : JE => nodeJ E k num nm kids (fs.map (· E))) = fun E => seqJ (fs.map (· E)) := by funext E s; simp [nodeJ, h47]
    rw [this]
    exact C.seq fs h
  · have e0 : ∀ f : JF, (∀ E, stmtJ E k num nm kids (fs.map (· E)) = f E) → P (fun E s => bindJ (stepJ E s) (f E)) → P (fun E => nodeJ E k num nm kids (fs.map (· E))) := by
      intro f hf hp
      have : (fun E : JE => nodeJ E k num nm kids (fs.map (· E))) = fun E s => bindJ (stepJ E s) (f E) := by funext E s; simp [nodeJ, h47, hf E]
      rw [this]
      exact hp
    by_cases e40 : k = 40
    · exact e0 (fun E => storeJ E (kid kids 0) true (fun s => (s, evJ E s (kid kids 1)))) (fun E => by funext s; simp only [stmtJ, e40, if_true]) (C.assign _ _)
    by_cases e41 : k = 41
    · exact e0 (fun E => ifJ E (kid kids 0) ((fs.map (· E)).getD 1 noJ) ((fs.map (· E)).getD 2 noJ)) (fun E => by funext s; simp [stmtJ, e41]) (C.bind stepJ _ C.step (C.test _ (fun E => (fs.map (· E)).getD 1 noJ) (fun E => (fs.map (· E)).getD 2 noJ) (hg 1) (hg 2)))
    by_cases e42 : k = 42
    · exact e0 (fun E => forJ E nm ((fs.map (· E)).getD 0 noJ) num.toNat 0) (fun E => by funext s; simp [stmtJ, e42]) (C.bind stepJ _ C.step (C.for_ nm (fun E => (fs.map (· E)).getD 0 noJ) (hg 0) _ _))
    by_cases e43 : k = 43
    · exact e0 (fun E => whileJ E (kid kids 0) ((fs.map (· E)).getD 1 noJ) num.toNat) (fun E => by funext s; simp [stmtJ, e43]) (C.bind stepJ _ C.step (C.while_ _ (fun E => (fs.map (· E)).getD 1 noJ) (hg 1) _))
    by_cases e44 : k = 44
    · exact e0 (fun E => storeJ E (kid kids 0) false (recvJ E)) (fun E => by funext s; simp [stmtJ, e44]) (C.inp _)
    by_cases e45 : k = 45
    · exact e0 (fun E => outJ E (kid kids 0) num) (fun E => by funext s; simp [stmtJ, e45]) (C.out _ _)
    by_cases e46 : k = 46
    · exact e0 (fun E => (fs.map (· E)).getD 0 noJ) (fun E => by funext s; simp [stmtJ, e46]) (C.bind stepJ _ C.step (hg 0))
    · exact e0 (fun _ s => (s, none)) (fun E => by funext s; simp [stmtJ, e40, e41, e42, e43, e44, e45, e46]) (C.bind stepJ _ C.step C.no)
theorem Closed.exec (C : Closed P) : ∀ n : Node, P (fun E => execN E n) := by
  intro n
  induction n using Node.rec (motive_2 := fun l => ∀ m ∈ l, P (fun E => execN E m)) with
  | mk k num s kids ih =>
    have : (fun E : JE => execN E (.mk k num s kids)) = fun E => nodeJ E k num s kids ((kids.map fun n E => execN E n).map (· E)) := by
      funext E
      rw [execN, execL_map, List.map_map]
      rfl
    rw [this]
    refine C.op k num s kids _ ?_
    intro f hf
    obtain ⟨m, hm, rfl⟩ := List.mem_map.1 hf
    exact ih m hm
  | nil => rename_i m h; cases h
  | cons n r h1 h2 =>
    rename_i m h
    rcases List.mem_cons.1 h with rfl | h
    · exact h1
    · exact h2 m h
end
/-! ### what every execution keeps -/
/-- A state whose values are words, whose arrays have these lengths, and that has not read or sent more than it made steps. -/
structure OKJ (E : JE) (lens : List Nat) (s : JS) : Prop where
  vars : ∀ nm v, s.vars nm = some v → I32 v
  cells : ∀ l ∈ s.cells, ∀ x ∈ l, I32 x
  lens : s.cells.map List.length = lens
  read : s.read ≤ s.steps
  out : s.out.length ≤ s.steps
  steps : s.steps = 0 ∨ (s.steps : Int) ≤ E.fuel
theorem OKJ.envA {E : JE} {lens : List Nat} {s : JS} (h : OKJ E lens s) : ∀ nm l, envA E s nm = some l → ∀ x ∈ l, I32 x := by
  intro nm l e x hx
  unfold Go.Proofs.YtgmapenlgammfaaGreatDoor.envA at e
  obtain ⟨i, _, rfl⟩ := Option.map_eq_some_iff.1 e
  rw [List.getD_eq_getElem?_getD] at hx
  cases e2 : s.cells[i]? with
  | none => rw [e2] at hx; simp at hx
  | some l => rw [e2] at hx; exact h.cells l (List.mem_of_getElem? e2) x hx
theorem OKJ.ev {E : JE} {lens : List Nat} {s : JS} (h : OKJ E lens s) {n : Node} {v : Int} (e : evJ E s n = .ok v) : I32 v := evalE_range h.vars h.envA n v e
theorem OKJ.setVar {E : JE} {lens : List Nat} {s : JS} (h : OKJ E lens s) (nm : ByteArray) {v : Int} (hv : I32 v) : OKJ E lens (setVar s nm v) := by
  refine ⟨?_, h.cells, h.lens, h.read, h.out, h.steps⟩
  intro m u hu
  simp only [Go.Proofs.YtgmapenlgammfaaGreatDoor.setVar, updI] at hu
  split at hu
  · injection hu with hu; subst hu; exact hv
  · exact h.vars m u hu
theorem OKJ.setCell {E : JE} {lens : List Nat} {s : JS} (h : OKJ E lens s) (a : Nat) (i : Int) {v : Int} (hv : I32 v) : OKJ E lens (setCell s a i v) := by
  refine ⟨h.vars, ?_, ?_, h.read, h.out, h.steps⟩
  · intro l hl x hx
    simp only [Go.Proofs.YtgmapenlgammfaaGreatDoor.setCell] at hl
    rcases List.mem_or_eq_of_mem_set hl with hl | rfl
    · exact h.cells l hl x hx
    · rcases List.mem_or_eq_of_mem_set hx with hx | rfl
      · rw [List.getD_eq_getElem?_getD] at hx
        cases e2 : s.cells[a]? with
        | none => rw [e2] at hx; simp at hx
        | some l => rw [e2] at hx; exact h.cells l (List.mem_of_getElem? e2) x hx
      · exact hv
  · rw [← h.lens]
    simp only [Go.Proofs.YtgmapenlgammfaaGreatDoor.setCell]
    apply List.ext_getElem?
    intro j
    simp only [List.getElem?_map, List.getElem?_set]
    by_cases hj : a = j
    · subst hj
      cases e : s.cells[a]? with
      | none =>
        have := List.getElem?_eq_none_iff.1 e
        simp [show ¬ a < s.cells.length by omega]
      | some l =>
        obtain ⟨hlt, rfl⟩ := List.getElem?_eq_some_iff.1 e
        simp [hlt, List.getD_eq_getElem?_getD]
    · simp [hj]
theorem getD_mem {l : List Int} (h : ∀ x ∈ l, I32 x) (i : Nat) : I32 (l.getD i 0) := by
  rw [List.getD_eq_getElem?_getD]
  cases e : l[i]? with
  | none => exact .zero
  | some x => exact h x (List.mem_of_getElem? e)
/-- Executions keep it. -/
def OKP (f : JF) : Prop := ∀ E lens s, (∀ x ∈ E.inp, I32 x) → OKJ E lens s → OKJ E lens (f E s).1
theorem stepJ_ok {E : JE} {lens : List Nat} {s : JS} (h : OKJ E lens s) : OKJ E lens (stepJ E s).1 ∧ ((stepJ E s).2 = none → (stepJ E s).1.read < (stepJ E s).1.steps ∧ (stepJ E s).1.out.length < (stepJ E s).1.steps) := by
  unfold stepJ
  split
  · exact ⟨h, fun h => by cases h⟩
  · rename_i hf
    have := h.read
    have := h.out
    exact ⟨⟨h.vars, h.cells, h.lens, by simp only; omega, by simp only; omega, .inr (by simp only; omega)⟩, fun _ => ⟨by simp only; omega, by simp only; omega⟩⟩
theorem storeJ_ok {E : JE} {lens : List Nat} {place : Node} {early : Bool} {g : JS → JS × Except Int Int} {s : JS} (h : OKJ E lens s) (hg : OKJ E lens (g s).1) (hv : ∀ v, (g s).2 = .ok v → I32 v) : OKJ E lens (storeJ E place early g s).1 := by
  generalize hgs : g s = r at *
  obtain ⟨s1, x⟩ := r
  simp only at hg hv
  unfold storeJ
  rw [hgs]
  cases x with
  | error e =>
    simp only
    repeat' split
    all_goals first | exact h | exact hg
  | ok v =>
    have hv' := hv v rfl
    simp only
    repeat' split
    all_goals first | exact h | exact hg | exact hg.setVar _ hv' | exact hg.setCell _ _ hv'
theorem okClosed : Closed OKP where
  no := fun _ _ s _ h => h
  bind := fun f g hf hg E lens s hi h => by
    have h1 := hf E lens s hi h
    dsimp only
    unfold bindJ
    split
    · exact hg E lens _ hi h1
    · exact h1
  step := fun E lens s _ h => (stepJ_ok h).1
  bound := fun _ _ s _ h => h
  var := fun nm v hv E lens s _ h => h.setVar nm hv
  del := fun nm E lens s _ h => by
    refine ⟨?_, h.cells, h.lens, h.read, h.out, h.steps⟩
    intro m u hu
    simp only [delI] at hu
    split at hu
    · cases hu
    · exact h.vars m u hu
  test := fun c f g hf hg E lens s hi h => by
    dsimp only
    unfold ifJ
    split
    · exact h
    · split
      · exact hg E lens s hi h
      · exact hf E lens s hi h
  out := fun c port E lens s hi h => by
    obtain ⟨h1, h2⟩ := stepJ_ok h
    dsimp only
    cases e : (stepJ E s).2 with
    | some x => rw [bindJ_some e]; exact h1
    | none =>
      rw [bindJ_none e]
      obtain ⟨h3, h4⟩ := h2 e
      unfold outJ
      split
      · exact h1
      · exact ⟨h1.vars, h1.cells, h1.lens, h1.read, by simp; omega, h1.steps⟩
  assign := fun place c E lens s hi h => by
    obtain ⟨h1, h2⟩ := stepJ_ok h
    dsimp only
    cases e : (stepJ E s).2 with
    | some x => rw [bindJ_some e]; exact h1
    | none =>
      rw [bindJ_none e]
      exact storeJ_ok h1 h1 (fun v hv => h1.ev hv)
  inp := fun place E lens s hi h => by
    obtain ⟨h1, h2⟩ := stepJ_ok h
    dsimp only
    cases e : (stepJ E s).2 with
    | some x => rw [bindJ_some e]; exact h1
    | none =>
      rw [bindJ_none e]
      obtain ⟨h3, h4⟩ := h2 e
      generalize (stepJ E s).1 = t at *
      have hr : OKJ E lens { t with read := t.read + 1 } := ⟨h1.vars, h1.cells, h1.lens, by simp only; omega, h1.out, h1.steps⟩
      exact storeJ_ok h1 hr (fun v hv => by injection hv with hv; subst hv; exact getD_mem hi _)
theorem execN_ok {E : JE} {lens : List Nat} {s : JS} (n : Node) (hi : ∀ x ∈ E.inp, I32 x) (h : OKJ E lens s) : OKJ E lens (execN E n s).1 := okClosed.exec n E lens s hi h
end Go.Proofs.YtgmapenlgammfaaGreatDoor

/- Laws of the execution in plain Lean: more fuel, less fuel, other values to receive, one step more. -/
namespace Go.Proofs.YtgmapenlgammfaaGreatDoor
open Go

theorem unaryI_err (op x : Int) : (unaryI op x).2 ≠ 13 := by
  unfold unaryI
  repeat' split
  all_goals simp
theorem applyI_err (op x y : Int) : (applyI op x y).2 ≠ 13 := by
  unfold applyI
  repeat' split
  all_goals simp
theorem evalE_err (ρ : ByteArray → Option Int) (α : ByteArray → Option (List Int)) : ∀ (n : Node) e, evalE ρ α n = .error e → e ≠ 13 := by
  have op : ∀ k n s vs, (∀ e, .error e ∈ vs → e ≠ 13) → ∀ e, evalOp ρ α k n s vs = .error e → e ≠ 13 := by
    intro k n s vs hv
    have hg : ∀ i e, vs.getD i (.error 0) = .error e → e ≠ 13 := by
      intro i e h
      rw [List.getD_eq_getElem?_getD] at h
      cases e2 : vs[i]? with
      | none => rw [e2] at h; injection h with h; subst h; decide
      | some u => rw [e2] at h; simp at h; subst h; exact hv e (List.mem_of_getElem? e2)
    intro e h
    unfold evalOp at h
    split at h
    · cases h
    split at h
    · split at h
      · injection h with h; subst h; decide
      · cases h
    split at h
    · split at h
      · injection h with h; subst h; decide
      · split at h
        · rename_i e2; injection h with h; subst h; exact hg 0 _ e2
        · split at h
          · cases h
          · injection h with h; subst h; decide
    split at h
    · split at h
      · rename_i e2; injection h with h; subst h; exact hg 0 _ e2
      · split at h
        · cases h
        · injection h with h; subst h; exact unaryI_err _ _
    · split at h
      · rename_i e2; injection h with h; subst h; exact hg 0 _ e2
      · split at h
        · rename_i e2; injection h with h; subst h; exact hg 1 _ e2
        · split at h
          · cases h
          · injection h with h; subst h; exact applyI_err _ _ _
  intro n
  induction n using Node.rec (motive_2 := fun l => ∀ e, .error e ∈ evalL ρ α l → e ≠ 13) with
  | mk k num s kids ih => intro e h; rw [evalE] at h; exact op k num s _ ih e h
  | nil => rename_i h; simp [evalL] at h
  | cons n r h1 h2 =>
    rename_i e h
    rw [evalL] at h
    rcases List.mem_cons.1 h with h | h
    · exact h1 e h.symm
    · exact h2 e h
theorem evJ_err {E : JE} {s : JS} {n : Node} {e : Int} (h : evJ E s n = .error e) : e ≠ 13 := evalE_err _ _ n e h

/-! ### fuel -/
def withFuel (E : JE) (g : Int) : JE := { E with fuel := g }
/-- Steps, values read, values sent only grow. -/
structure Grow (s t : JS) : Prop where
  steps : s.steps ≤ t.steps
  read : s.read ≤ t.read
  out : s.out <+: t.out
theorem Grow.refl (s : JS) : Grow s s := ⟨Nat.le_refl _, Nat.le_refl _, List.prefix_rfl⟩
theorem Grow.trans {a b c : JS} (h : Grow a b) (k : Grow b c) : Grow a c := ⟨Nat.le_trans h.steps k.steps, Nat.le_trans h.read k.read, h.out.trans k.out⟩
/-- What f gives at s, and with another amount of fuel. -/
structure FuelAt (f : JF) (E : JE) (s : JS) : Prop where
  grow : Grow s (f E s).1
  out13 : (f E s).2 = some 13 → E.fuel ≤ ((f E s).1.steps : Int)
  bound : (s.steps : Int) ≤ E.fuel → ((f E s).1.steps : Int) ≤ E.fuel
  enough : ∀ g : Int, (f E s).2 ≠ some 13 → ((f E s).1.steps : Int) ≤ g → f (withFuel E g) s = f E s
  less : ∀ g : Int, (f E s).2 ≠ some 13 → (s.steps : Int) ≤ g → g < ((f E s).1.steps : Int) → ∃ s', f (withFuel E g) s = (s', some 13) ∧ (s'.steps : Int) = g ∧ s'.read ≤ (f E s).1.read ∧ s'.out <+: (f E s).1.out
def FuelP (f : JF) : Prop := ∀ E s, FuelAt f E s
/-- A form that makes no step. -/
theorem FuelAt.flat {f : JF} {E : JE} {s : JS} (h1 : Grow s (f E s).1) (h2 : (f E s).1.steps = s.steps) (h3 : (f E s).2 ≠ some 13) (h4 : ∀ g, f (withFuel E g) s = f E s) : FuelAt f E s :=
  ⟨h1, fun h => absurd h h3, fun h => by rw [h2]; exact h, fun g _ _ => h4 g, fun g _ h5 h6 => by rw [h2] at h6; omega⟩
theorem FuelAt.bind {f g : JF} {E : JE} {s : JS} (hf : FuelAt f E s) (hg : ∀ t, FuelAt g E t) : FuelAt (fun E s => bindJ (f E s) (g E)) E s := by
  cases e : (f E s).2 with
  | some x =>
    have e1 : bindJ (f E s) (g E) = ((f E s).1, some x) := bindJ_some e
    refine ⟨?_, ?_, ?_, ?_, ?_⟩
    · simp only [e1]; exact hf.grow
    · simp only [e1]; intro h; exact hf.out13 (by rw [e]; exact h)
    · simp only [e1]; exact hf.bound
    · simp only [e1]
      intro k h1 h2
      have := hf.enough k (by rw [e]; exact h1) h2
      rw [this]
      exact bindJ_some e
    · simp only [e1]
      intro k h1 h2 h3
      obtain ⟨s', h4, h5⟩ := hf.less k (by rw [e]; exact h1) h2 h3
      exact ⟨s', by rw [h4]; rfl, h5⟩
  | none =>
    have e1 : bindJ (f E s) (g E) = g E (f E s).1 := bindJ_none e
    have hh := hg (f E s).1
    have hn : (f E s).2 ≠ some 13 := by rw [e]; simp
    refine ⟨?_, ?_, ?_, ?_, ?_⟩
    · simp only [e1]; exact hf.grow.trans hh.grow
    · simp only [e1]; exact hh.out13
    · simp only [e1]; exact fun h => hh.bound (hf.bound h)
    · simp only [e1]
      intro k h1 h2
      have h3 := hf.enough k hn (by have := hh.grow.steps; omega)
      rw [bindJ_none (by rw [h3]; exact e), h3]
      exact hh.enough k h1 h2
    · simp only [e1]
      intro k h1 h2 h3
      rcases Int.lt_or_le k ((f E s).1.steps : Int) with hlt | hge
      · obtain ⟨s', h4, h5, h6, h7⟩ := hf.less k hn h2 hlt
        exact ⟨s', by rw [h4]; rfl, h5, Nat.le_trans h6 hh.grow.read, h7.trans hh.grow.out⟩
      · have h4 := hf.enough k hn hge
        obtain ⟨s', h5, h6⟩ := hh.less k h1 hge h3
        exact ⟨s', by rw [bindJ_none (by rw [h4]; exact e), h4]; exact h5, h6⟩
theorem FuelAt.step (E : JE) (s : JS) : FuelAt stepJ E s := by
  by_cases h : (s.steps : Int) ≥ E.fuel
  · have e : stepJ E s = (s, some 13) := by unfold stepJ; rw [if_pos h]
    exact ⟨by rw [e]; exact .refl s, fun _ => by rw [e]; exact h, fun h => by rw [e]; exact h, fun g h1 => absurd (by rw [e]) h1, fun g h1 => absurd (by rw [e]) h1⟩
  · have e : stepJ E s = ({ s with steps := s.steps + 1 }, none) := by unfold stepJ; rw [if_neg h]
    refine ⟨by rw [e]; exact ⟨by simp, Nat.le_refl _, List.prefix_rfl⟩, fun h => (by rw [e] at h; cases h), fun h => by rw [e]; simp only; omega, ?_, ?_⟩
    · intro g _ h2
      rw [e] at h2 ⊢
      unfold stepJ
      rw [if_neg (by simp only [withFuel] at *; omega)]
    · intro g _ h2 h3
      rw [e] at h3
      refine ⟨s, ?_, by simp only at h3; omega, by rw [e]; exact Nat.le_refl _, by rw [e]; exact List.prefix_rfl⟩
      unfold stepJ
      rw [if_pos (by simp only [withFuel] at *; omega)]
theorem storeJ_flat {E : JE} {place : Node} {early : Bool} {g : JS → JS × Except Int Int} {s : JS} (hg : Grow s (g s).1 ∧ (g s).1.steps = s.steps) (he : ∀ e, (g s).2 = .error e → e ≠ 13) :
    Grow s (storeJ E place early g s).1 ∧ (storeJ E place early g s).1.steps = s.steps ∧ (storeJ E place early g s).2 ≠ some 13 := by
  generalize hgs : g s = r at *
  obtain ⟨s1, x⟩ := r
  obtain ⟨g1, g2⟩ := hg
  simp only at g1 g2 he
  have gv : ∀ nm v, Grow s (setVar s1 nm v) := fun nm v => g1.trans ⟨Nat.le_refl _, Nat.le_refl _, List.prefix_rfl⟩
  have gc : ∀ a i v, Grow s (setCell s1 a i v) := fun a i v => g1.trans ⟨Nat.le_refl _, Nat.le_refl _, List.prefix_rfl⟩
  unfold storeJ
  rw [hgs]
  have r0 : Grow s s ∧ s.steps = s.steps := ⟨.refl s, rfl⟩
  cases x with
  | error e =>
    have := he e rfl
    simp only
    repeat' split
    all_goals first
      | exact ⟨g1, g2, by simpa using this⟩
      | exact ⟨.refl s, rfl, by decide⟩
      | (rename_i h; exact ⟨.refl s, rfl, by simpa using evJ_err h⟩)
      | (rename_i h _; exact ⟨.refl s, rfl, by simpa using evJ_err h⟩)
      | simp_all
  | ok v =>
    simp only
    repeat' split
    all_goals first
      | exact ⟨gv _ _, g2, by simp⟩
      | exact ⟨gc _ _ _, g2, by simp⟩
      | exact ⟨g1, g2, by simp⟩
      | exact ⟨.refl s, rfl, by decide⟩
      | (rename_i h; exact ⟨.refl s, rfl, by simpa using evJ_err h⟩)
      | (rename_i h _; exact ⟨.refl s, rfl, by simpa using evJ_err h⟩)
      | simp_all
theorem fuelClosed : Closed FuelP where
  no := fun E s => .flat (.refl s) rfl (by simp) (fun _ => rfl)
  bind := fun f g hf hg E s => (hf E s).bind (hg E)
  step := FuelAt.step
  bound := fun E s => .flat (.refl s) rfl (by simp) (fun _ => rfl)
  var := fun nm v _ E s => .flat ⟨Nat.le_refl _, Nat.le_refl _, List.prefix_rfl⟩ rfl (by simp) (fun _ => rfl)
  del := fun nm E s => .flat ⟨Nat.le_refl _, Nat.le_refl _, List.prefix_rfl⟩ rfl (by simp) (fun _ => rfl)
  test := fun c f g hf hg E s => by
    have ee : ∀ k, evJ (withFuel E k) s c = evJ E s c := fun _ => rfl
    cases e : evJ E s c with
    | error x =>
      have e1 : ∀ k, ifJ (withFuel E k) c (f (withFuel E k)) (g (withFuel E k)) s = (s, some x) := fun k => by unfold ifJ; rw [ee, e]
      have e0 : ifJ E c (f E) (g E) s = (s, some x) := by unfold ifJ; rw [e]
      refine .flat ?_ ?_ ?_ ?_
      · simp only [e0]; exact .refl s
      · simp only [e0]
      · simp only [e0]; simpa using evJ_err e
      · intro k; simp only [e0]; exact e1 k
    | ok v =>
      by_cases hv : v = 0
      · have e1 : ∀ k, ifJ (withFuel E k) c (f (withFuel E k)) (g (withFuel E k)) s = g (withFuel E k) s := fun k => by unfold ifJ; rw [ee, e]; simp [hv]
        have e0 : ifJ E c (f E) (g E) s = g E s := by unfold ifJ; rw [e]; simp [hv]
        have h := hg E s
        exact ⟨by simp only [e0]; exact h.grow, by simp only [e0]; exact h.out13, by simp only [e0]; exact h.bound, by simp only [e0, e1]; exact h.enough, by simp only [e0, e1]; exact h.less⟩
      · have e1 : ∀ k, ifJ (withFuel E k) c (f (withFuel E k)) (g (withFuel E k)) s = f (withFuel E k) s := fun k => by unfold ifJ; rw [ee, e]; simp [hv]
        have e0 : ifJ E c (f E) (g E) s = f E s := by unfold ifJ; rw [e]; simp [hv]
        have h := hf E s
        exact ⟨by simp only [e0]; exact h.grow, by simp only [e0]; exact h.out13, by simp only [e0]; exact h.bound, by simp only [e0, e1]; exact h.enough, by simp only [e0, e1]; exact h.less⟩
  out := fun c port E s => FuelAt.bind (f := stepJ) (g := fun E => outJ E c port) (.step E s) (fun t => by
    cases e : evJ E t c with
    | error x =>
      have e1 : ∀ k, outJ (withFuel E k) c port t = (t, some x) := fun k => by unfold outJ; rw [show evJ (withFuel E k) t c = evJ E t c from rfl, e]
      have e0 : outJ E c port t = (t, some x) := by unfold outJ; rw [e]
      refine .flat ?_ ?_ ?_ ?_
      · simp only [e0]; exact .refl t
      · simp only [e0]
      · simp only [e0]; simpa using evJ_err e
      · intro k; simp only [e0]; exact e1 k
    | ok v =>
      have e1 : ∀ k, outJ (withFuel E k) c port t = ({ t with out := t.out ++ [(port, v)] }, none) := fun k => by unfold outJ; rw [show evJ (withFuel E k) t c = evJ E t c from rfl, e]
      have e0 : outJ E c port t = ({ t with out := t.out ++ [(port, v)] }, none) := by unfold outJ; rw [e]
      refine .flat ?_ ?_ ?_ ?_
      · simp only [e0]; exact ⟨Nat.le_refl _, Nat.le_refl _, List.prefix_append _ _⟩
      · simp only [e0]
      · simp only [e0]; simp
      · intro k; simp only [e0]; exact e1 k)
  assign := fun place c E s => FuelAt.bind (f := stepJ) (g := fun E => storeJ E place true (fun s => (s, evJ E s c))) (.step E s) (fun t => by
    obtain ⟨h1, h2, h3⟩ := storeJ_flat (E := E) (place := place) (early := true) (g := fun s => (s, evJ E s c)) (s := t) ⟨.refl t, rfl⟩ (fun e he => evJ_err he)
    exact .flat h1 h2 h3 (fun _ => rfl))
  inp := fun place E s => FuelAt.bind (f := stepJ) (g := fun E => storeJ E place false (recvJ E)) (.step E s) (fun t => by
    obtain ⟨h1, h2, h3⟩ := storeJ_flat (E := E) (place := place) (early := false) (g := recvJ E) (s := t) ⟨⟨Nat.le_refl _, Nat.le_succ _, List.prefix_rfl⟩, rfl⟩ (fun e he => by cases he)
    exact .flat h1 h2 h3 (fun _ => rfl))

/-! ### values to receive -/
def withInp (E : JE) (l : List Int) : JE := { E with inp := l }
def InpP (f : JF) : Prop := ∀ E s, s.read ≤ (f E s).1.read ∧ ∀ l, (∀ i, i < (f E s).1.read → E.inp.getD i 0 = l.getD i 0) → f (withInp E l) s = f E s
theorem InpP.bind_ {f g : JF} (hf : InpP f) (hg : InpP g) : InpP (fun E s => bindJ (f E s) (g E)) := fun E s => by
  obtain ⟨f1, f2⟩ := hf E s
  cases e : (f E s).2 with
  | some x =>
    have e1 : bindJ (f E s) (g E) = ((f E s).1, some x) := bindJ_some e
    refine ⟨by simp only [e1]; exact f1, ?_⟩
    intro l hl
    simp only [e1] at hl ⊢
    have := f2 l hl
    rw [this]
    exact bindJ_some e
  | none =>
    have e1 : bindJ (f E s) (g E) = g E (f E s).1 := bindJ_none e
    obtain ⟨g1, g2⟩ := hg E (f E s).1
    refine ⟨by simp only [e1]; omega, ?_⟩
    intro l hl
    simp only [e1] at hl ⊢
    have := f2 l (fun i hi => hl i (by omega))
    rw [this, bindJ_none e]
    exact g2 l hl
theorem storeJ_read {E : JE} {place : Node} {early : Bool} {g : JS → JS × Except Int Int} {s : JS} (hg : s.read ≤ (g s).1.read) : s.read ≤ (storeJ E place early g s).1.read := by
  generalize hgs : g s = r at *
  obtain ⟨s1, x⟩ := r
  simp only at hg
  unfold storeJ
  rw [hgs]
  cases x <;> simp only <;> (repeat' split) <;> first | exact hg | exact Nat.le_refl _
theorem inpClosed : Closed InpP where
  no := fun E s => ⟨Nat.le_refl _, fun _ _ => rfl⟩
  bind := fun f g hf hg => hf.bind_ hg
  step := fun E s => ⟨by unfold stepJ; split <;> exact Nat.le_refl _, fun _ _ => rfl⟩
  bound := fun E s => ⟨Nat.le_refl _, fun _ _ => rfl⟩
  var := fun nm v _ E s => ⟨Nat.le_refl _, fun _ _ => rfl⟩
  del := fun nm E s => ⟨Nat.le_refl _, fun _ _ => rfl⟩
  test := fun c f g hf hg E s => by
    have ee : ∀ l, evJ (withInp E l) s c = evJ E s c := fun _ => rfl
    cases e : evJ E s c with
    | error x =>
      have e0 : ifJ E c (f E) (g E) s = (s, some x) := by unfold ifJ; rw [e]
      refine ⟨by simp only [e0]; exact Nat.le_refl _, fun l _ => ?_⟩
      simp only [e0]
      unfold ifJ
      rw [ee, e]
    | ok v =>
      by_cases hv : v = 0
      · have e1 : ∀ l, ifJ (withInp E l) c (f (withInp E l)) (g (withInp E l)) s = g (withInp E l) s := fun k => by unfold ifJ; rw [ee, e]; simp [hv]
        have e0 : ifJ E c (f E) (g E) s = g E s := by unfold ifJ; rw [e]; simp [hv]
        simp only [e0, e1]
        exact hg E s
      · have e1 : ∀ l, ifJ (withInp E l) c (f (withInp E l)) (g (withInp E l)) s = f (withInp E l) s := fun k => by unfold ifJ; rw [ee, e]; simp [hv]
        have e0 : ifJ E c (f E) (g E) s = f E s := by unfold ifJ; rw [e]; simp [hv]
        simp only [e0, e1]
        exact hf E s
  out := fun c port => InpP.bind_ (f := stepJ) (g := fun E => outJ E c port) (fun E s => ⟨by unfold stepJ; split <;> exact Nat.le_refl _, fun _ _ => rfl⟩) (fun E s => ⟨by dsimp only; unfold outJ; split <;> exact Nat.le_refl _, fun _ _ => rfl⟩)
  assign := fun place c => InpP.bind_ (f := stepJ) (g := fun E => storeJ E place true (fun s => (s, evJ E s c))) (fun E s => ⟨by unfold stepJ; split <;> exact Nat.le_refl _, fun _ _ => rfl⟩) (fun E s => ⟨storeJ_read (Nat.le_refl _), fun _ _ => rfl⟩)
  inp := fun place => InpP.bind_ (f := stepJ) (g := fun E => storeJ E place false (recvJ E)) (fun E s => ⟨by unfold stepJ; split <;> exact Nat.le_refl _, fun _ _ => rfl⟩) (fun E s => by
    refine ⟨storeJ_read (Nat.le_succ _), fun l hl => ?_⟩
    have ee : ∀ c, evJ (withInp E l) s c = evJ E s c := fun _ => rfl
    unfold storeJ at hl ⊢
    simp only [ee, show (withInp E l).ix = E.ix from rfl, recvJ, Bool.false_eq_true, if_false] at hl ⊢
    have key : ∀ r : JR, (r.1.read = s.read + 1 → E.inp.getD s.read 0 = l.getD s.read 0) → True := fun _ _ => trivial
    split
    · rename_i h
      rw [if_pos h] at hl
      rw [show (withInp E l).inp = l from rfl, ← hl s.read (by simp [setVar])]
    · rename_i h
      rw [if_neg h] at hl
      cases e1 : E.ix place.name with
      | none => rfl
      | some a =>
        rw [e1] at hl
        simp only at hl ⊢
        cases e2 : evJ E s (kid place.kids 0) with
        | error _ => rfl
        | ok i =>
          rw [e2] at hl
          simp only at hl ⊢
          split
          · rename_i h3
            rw [if_pos h3] at hl
            rw [show (withInp E l).inp = l from rfl, ← hl s.read (by simp [setCell])]
          · rfl)

/-! ### one step more -/
def upS (s : JS) : JS := { s with steps := s.steps + 1 }
def ShP (f : JF) : Prop := ∀ E s, f (withFuel E (E.fuel + 1)) (upS s) = (upS (f E s).1, (f E s).2)
theorem stepJ_up (E : JE) (s : JS) : stepJ (withFuel E (E.fuel + 1)) (upS s) = (upS (stepJ E s).1, (stepJ E s).2) := by
  unfold stepJ
  by_cases h : (s.steps : Int) ≥ E.fuel
  · rw [if_pos h, if_pos (by simp only [withFuel, upS]; omega)]
  · rw [if_neg h, if_neg (by simp only [withFuel, upS]; omega)]
    rfl
theorem ShP.bind_ {f g : JF} (hf : ShP f) (hg : ShP g) : ShP (fun E s => bindJ (f E s) (g E)) := fun E s => by
  simp only [hf E s]
  cases e : (f E s).2 with
  | some x => rw [bindJ_some rfl, bindJ_some e]
  | none => rw [bindJ_none rfl, bindJ_none e]; exact hg E _
theorem evJ_up (E : JE) (s : JS) (c : Node) : evJ (withFuel E (E.fuel + 1)) (upS s) c = evJ E s c := rfl
theorem shClosed : Closed ShP where
  no := fun E s => rfl
  bind := fun f g hf hg => hf.bind_ hg
  step := stepJ_up
  bound := fun E s => rfl
  var := fun nm v _ E s => rfl
  del := fun nm E s => rfl
  test := fun c f g hf hg E s => by
    unfold ifJ
    simp only [evJ_up]
    cases e : evJ E s c with
    | error x => rfl
    | ok v =>
      simp only
      split
      · exact hg E s
      · exact hf E s
  out := fun c port => ShP.bind_ (f := stepJ) (g := fun E => outJ E c port) stepJ_up (fun E s => by
    unfold outJ
    simp only [evJ_up]
    cases e : evJ E s c <;> rfl)
  assign := fun place c => ShP.bind_ (f := stepJ) (g := fun E => storeJ E place true (fun s => (s, evJ E s c))) stepJ_up (fun E s => by
    unfold storeJ
    simp only [evJ_up, show (withFuel E (E.fuel + 1)).ix = E.ix from rfl, show (upS s).cells = s.cells from rfl, if_true]
    split
    · cases evJ E s c <;> rfl
    · cases E.ix place.name with
      | none => rfl
      | some a =>
        simp only
        cases evJ E s (kid place.kids 0) with
        | error _ => rfl
        | ok i =>
          simp only
          cases evJ E s c with
          | error _ => rfl
          | ok v =>
            simp only
            split <;> rfl)
  inp := fun place => ShP.bind_ (f := stepJ) (g := fun E => storeJ E place false (recvJ E)) stepJ_up (fun E s => by
    unfold storeJ
    simp only [evJ_up, show (withFuel E (E.fuel + 1)).ix = E.ix from rfl, show (upS s).cells = s.cells from rfl, Bool.false_eq_true, if_false, recvJ]
    split
    · rfl
    · cases E.ix place.name with
      | none => rfl
      | some a =>
        simp only
        cases evJ E s (kid place.kids 0) with
        | error _ => rfl
        | ok i =>
          simp only
          split <;> rfl)
end Go.Proofs.YtgmapenlgammfaaGreatDoor
