/- The package check: the walk over a tree. -/
import Derived.Test.YtgmapenlgammfaaGreatDoorAdd
set_option linter.all false
namespace Go.Proofs.YtgmapenlgammfaaGreatDoor
open Go
section
attribute [local semireducible] CJ XJ Takes Gives rmp rrow pt Base
variable {P : Program} {w0 : World} {n : Nat} {Q : Exit → Act → World → Prop} {L : Env} {M : List HProp}
theorem OpS.callO {d : Option Tmp} {T : TypeId} {p : String} {af : Array Edge} {g : Option (Nat × Bool)} {f : Operand} {k : FuncId} {args : Array Value} {first cap : List Value} {xs : List Operand} {vs : List Value} {ts : Array TypeId} {K : Value → List HProp → Prop} {KP : List PanicEntry → List HProp → Prop} {pre M' : List HProp}
    (hs : Spec P w0 k args pre (Ret K KP)) (hf : Ev L f (.func (.func k) first.toArray cap.toArray)) (c : CallT P k) (hx : EvL L xs vs) (ha : args = (first ++ vs ++ cap).toArray) (hm : Takes M pre M') :
    OpS P w0 L M ⟨d, .call { callee := .value f, args := xs.toArray, argTypes := ts }, T, p, af, g⟩ (fun v N => ∃ N', K v N' ∧ N = N' ++ M') (fun c N => ∃ N', KP c N' ∧ N = N' ++ M') := by
  subst ha
  exact OpS.call hf c hx hm hs
theorem CJ.seqI {σ : Type} {x y : Code} (C : σ → Prop) (Lf : σ → Env) (Mf : σ → List HProp) (kx : CJ P w0 n x (Exit.then (fun a w => ∃ s, C s ∧ ∃ h, St n (Lf s) a ∧ star (Mf s) h ∧ Sat w0 w h) Q) L M) (ky : ∀ s, C s → CJ P w0 n y Q (Lf s) (Mf s)) : CJ P w0 n (.seq x y) Q L M := fun a w h s m t => by
  refine wp_seq (wp_mono (kx a w h s m t) ?_)
  intro e a w q
  cases e with
  | normal => obtain ⟨s, hs, h, h1, h2, h3⟩ := q; exact ky s hs a w h h1 h2 h3
  | _ => exact q
theorem CJ.cut {σ : Type} {x y : Code} (C : σ → Prop) (Lf : σ → Env) (Mf : σ → List HProp) (kx : CJ P w0 n x (Exit.then (fun a w => ∃ s, C s ∧ ∃ h, St n (Lf s) a ∧ star (Mf s) h ∧ Sat w0 w h) Q) L M) (ky : ∀ s, C s → CJ P w0 n y Q (Lf s) (Mf s)) : CJ P w0 n x (Exit.then (fun a w => y.wp P Q a w) Q) L M := fun a w h s m t => by
  refine wp_mono (kx a w h s m t) ?_
  intro e a w q
  cases e with
  | normal => obtain ⟨s, hs, h, h1, h2, h3⟩ := q; exact ky s hs a w h h1 h2 h3
  | _ => exact q
theorem XJ.meet {σ : Type} {C : σ → Prop} {Lf : σ → Env} {Mf : σ → List HProp} (s : σ) (hC : C s) (hL : ∀ t v, (Lf s).get t = some v → L.get t = some v) (hM : Gives M (Mf s)) :
    XJ w0 n .normal (Exit.then (fun a w => ∃ s, C s ∧ ∃ h, St n (Lf s) a ∧ star (Mf s) h ∧ Sat w0 w h) Q) L M := fun a w h st m t => ⟨s, hC, h, st.sub hL, hM h m, t⟩
theorem Spec.frz {f : FuncId} {args : Array Value} {A B : HProp} {pre : List HProp} {R : Ending → List HProp → Prop} (z : Frz A B) (k : Spec P w0 f args (B :: pre) R) : Spec P w0 f args (A :: pre) R := by
  unfold Spec at *
  intro F w h m t
  obtain ⟨h', m', t'⟩ := z.star t m
  exact k F w h' m' t'
theorem AJ.fact {ops : Array Oper} {Mro : List HProp} {k : Nat} {D : List Nat} {p : Prop} (f : ∀ h, star M h → p) (kk : p → AJ P w0 n ops Q Mro k D L M) : AJ P w0 n ops Q Mro k D L M := fun g fuel Z listed a w h r hp m s hc => kk (f h m) g fuel Z listed a w h r hp m s hc
theorem XJ.fact {e : Exit} {p : Prop} (f : ∀ h, star M h → p) (k : p → XJ w0 n e Q L M) : XJ w0 n e Q L M := fun a w h s m t => k (f h m) a w h s m t
attribute [local semireducible] row in
theorem row_cap {E sz n c : Nat} {A : Option Addr} {xs : List Value} {M M' : List HProp} {h : Frag} (t : Takes M [row E sz (.slice A n c) n xs] M') (m : star M h) : n ≤ c := by
  obtain ⟨h1, h2, l1, l2, dd, ⟨e1, e2, e3⟩, m2⟩ := t h m
  rcases e3 with ⟨e, e'⟩ | ⟨g, cap, cur, e, a, hc, _⟩
  · omega
  · simp only [Value.slice.injEq, true_and] at e
    obtain ⟨rfl, rfl⟩ := e
    exact hc
theorem Src.clip {w0 : World} {M : List HProp} {sz n c : Nat} {A : Option Addr} {xs : List Value} (h : Src w0 M sz (.slice A n c) n xs) : Src w0 M sz (.slice A n n) n xs := by
  obtain ⟨h1, h2, h3⟩ := h
  refine ⟨h1, h2, ?_⟩
  rcases h3 with ⟨e', A', c'', e⟩ | ⟨b, o, c', e, hh⟩
  · subst e'
    exact .inl ⟨rfl, _, _, rfl⟩
  · simp only [Value.slice.injEq, true_and] at e
    obtain ⟨rfl, _⟩ := e
    exact .inr ⟨b, o, _, rfl, hh⟩
theorem cel_base {w0 w : World} {h : Frag} {M M' : List HProp} {b T : Nat} {cs : List Value} (t : Takes M [cel b T cs] M') (m : star M h) (s : Sat w0 w h) : Base w b 0 cs := fun j v hv => HasAt.heap (s.pt (t h m)) atAll j v hv
theorem rmp_mapB {w0 w : World} {h : Frag} {M M' : List HProp} {κ : Type} [DecidableEq κ] {enc : κ → Value} {r : Nat} {m : κ → Option Value} (t : Takes M [rmp enc r m] M') (mm : star M h) (s : Sat w0 w h) : MapB w enc r m := by
  obtain ⟨h1, h2, l1, l2, dd, ⟨es, clk, a, mi⟩, m2⟩ := t h mm
  exact ⟨es, clk, (s.own r _ (l1 r _ a)).2, mi⟩
theorem rrow_rows {w0 w : World} {h : Frag} {M M' : List HProp} {E n c : Nat} {A : Option Addr} {xs : List Value} (t : Takes M [rrow E 1 (.slice A n c) n xs] M') (mm : star M h) (s : Sat w0 w h) : RowsB w 1 A (xs.map fun u => [u]) := by
  have tt := t h mm
  obtain ⟨h1, h2, l1, l2, dd, ⟨e1, e2, e3⟩, m2⟩ := tt
  intro i r e
  rw [List.getElem?_map] at e
  obtain ⟨v, hv, rfl⟩ := Option.map_eq_some_iff.1 e
  rcases e3 with ⟨e, e'⟩ | ⟨g, cap, cur, e, a, _, _, hc, ht⟩
  · subst e'
    have : xs = [] := List.eq_nil_of_length_eq_zero (by simpa using e1)
    subst this
    simp at hv
  · simp only [Value.slice.injEq, true_and] at e
    obtain ⟨rfl, rfl⟩ := e
    refine ⟨g, 0, rfl, rfl, ?_⟩
    have hb := (s.own _ _ (l1 _ _ a)).2
    intro j u hu
    rcases j with _ | j
    · simp at hu
      subst hu
      have hi : i < n * 1 := by
        rcases Nat.lt_or_ge i (n * 1) with x | x
        · exact x
        · rw [List.getElem?_eq_none (by omega)] at hv; cases hv
      rw [← ht, List.getElem?_take_of_lt hi] at hv
      have := HasAt.heap (o := 0) (vs := cur) hb atAll i v hv
      simpa using this
    · simp at hu
end
def scopeOf (S : Scope) (k : Int) (name : ByteArray) : Scope :=
  if k = 42 then ⟨fun j => decide (j = name) || S.scalars j, fun j => decide (j = name) || S.loops j, S.held⟩
  else if k = 46 then { S with held := S.held ++ [name] } else S
mutual
/-- The number of faults that the walk adds. -/
def visitN (C : Ctx) : Node → Bool → Scope → Nat
  | .mk k _ s kids, place, S => (if faultE C S k s place = 0 then 0 else 1) + visitK C kids (k == 40 || k == 44) (scopeOf S k s)
def visitK (C : Ctx) : List Node → Bool → Scope → Nat
  | [], _, _ => 0
  | n :: r, t, S => visitN C n t S + visitK C r false S
end
theorem visit_le (C : Ctx) : ∀ n t S, visitN C n t S ≤ n.size := by
  intro n
  induction n using Node.rec (motive_2 := fun l => ∀ t S, visitK C l t S ≤ Node.sizeAll l) with
  | mk k num s kids ih =>
    intro t S
    have := ih (k == 40 || k == 44) (scopeOf S k s)
    rw [visitN, Node.size]
    split <;> omega
  | nil => simp [visitK, Node.sizeAll]
  | cons n r h1 h2 =>
    rename_i t S
    have := h1 t S
    have := h2 false S
    rw [visitK, Node.sizeAll]
    omega
/-- The checker's memory. -/
abbrev ckM (bc : Nat) (task : Int) (rv ra rs : Nat) (Ao : Option Addr) (k co : Nat) (xs : List Value) : List HProp :=
  [cel bc 166 [.int .i64 task, .map (some rv), .map (some ra), .map (some rs), .slice Ao k co], row 212 4 (.slice Ao k co) k xs]
abbrev setsM (C : Ctx) (rv ra rs : Nat) : List HProp := [rmp Value.string rv (setM C.vars), rmp Value.string ra (setM C.arrays), rmp Value.string rs (setM C.shared)]
abbrev scM (S : Scope) (r1 r2 : Nat) (Ah : Option Addr) (ch : Nat) : List HProp :=
  [rmp Value.string r1 (setM S.scalars), rmp Value.string r2 (setM S.loops), rrow 9 1 (.slice Ah S.held.length ch) S.held.length (S.held.map Value.string)]
theorem strRows (l : List ByteArray) : (l.map Value.string).map (fun u => [u]) = l.map strRow := by rw [List.map_map]; rfl
theorem fault_own (w0 : World) (bc : Nat) (task : Int) (rv ra rs : Nat) (vo : Value) (C : Ctx) (S : Scope) (r1 r2 : Nat) (Ah : Option Addr) (ch : Nat) (hl : S.held.length < 4611686018427387904) (k num : Int) (name : ByteArray) (kv : Value) (place : Bool) :
    Spec Tryz.prog w0 132 #[.pointer (some ⟨bc, 0, none⟩), .agg #[.int .u8 k, .int .i64 num, .string name, kv], .bool place, .agg #[.map (some r1), .map (some r2), .slice Ah S.held.length ch]]
      (cel bc 166 [.int .i64 task, .map (some rv), .map (some ra), .map (some rs), vo] :: (setsM C rv ra rs ++ scM S r1 r2 Ah ch))
      (Ret (fun v N => v = .int .i64 (faultE C S k name place) ∧ N = cel bc 166 [.int .i64 task, .map (some rv), .map (some ra), .map (some rs), vo] :: (setsM C rv ra rs ++ scM S r1 r2 Ah ch)) noP) :=
  Spec.rebaseIs fun w h m s => fault_spec w bc C S _
    ⟨task, rv, ra, rs, vo, cel_base (by exact kTake) m s, rmp_mapB (by exact kTake) m s, rmp_mapB (by exact kTake) m s, rmp_mapB (by exact kTake) m s⟩
    ⟨r1, r2, Ah, ch, rfl, rmp_mapB (by exact kTake) m s, rmp_mapB (by exact kTake) m s, strRows S.held ▸ rrow_rows (by exact kTake) m s⟩ hl k num name kv place
theorem visit_spec (w0 : World) (C : Ctx) : ∀ (m : Nat) (n : Node) (cs : List Value), n.size ≤ m → NodeR w0 n cs → n.size ≤ 10000000000 →
    ∀ (bc : Nat) (task : Int) (rv ra rs : Nat) (Ao : Option Addr) (k co : Nat) (xs : List Value) (S : Scope) (r1 r2 : Nat) (Ah : Option Addr) (ch : Nat) (Ap : Option Addr) (np cp : Nat) (ps : List Value) (place : Bool),
      k + n.size ≤ 100000000000 → np + n.size ≤ 100000000000 → S.held.length + n.size ≤ 100000000000 → np ≤ cp → S.held.length ≤ ch →
    Spec Tryz.prog w0 90 #[.pointer (some ⟨bc, 0, none⟩), .agg cs.toArray, .slice Ap np cp, .bool place, .agg #[.map (some r1), .map (some r2), .slice Ah S.held.length ch]]
      (rrow 3 1 (.slice Ap np cp) np ps :: (ckM bc task rv ra rs Ao k co xs ++ (setsM C rv ra rs ++ scM S r1 r2 Ah ch)))
      (Ret (fun v N => v = .tuple #[] ∧ ∃ A' c' xs', N = ckM bc task rv ra rs A' (k + visitN C n place S) c' xs') noP) := by
  intro m
  induction m with
  | zero => intro n cs h; have := n.size_pos; omega
  | succ m ih =>
    intro n cs hm hR hn bc task rv ra rs Ao k co xs S r1 r2 Ah ch Ap np cp ps place hk hnp hh hcp hch
    obtain ⟨A, cap, rfl, hcap, hN⟩ := hR.kids
    obtain ⟨kd, num, nm, kids⟩ := n
    simp only [Node.kind, Node.num, Node.name, Node.kids] at *
    have hkl : kids.length < 10000000000 := by have := Node.kids_le (.mk kd num nm kids); simp only [Node.kids] at this; omega
    have hsz := Node.size_eq (.mk kd num nm kids)
    simp only [Node.kids] at hsz
    refine Spec.enter (args := [_, _, _, _, _]) Tryz.func90 rfl rfl rfl (fun F => ?_)
    refine kAuto ?_
    (apply RL.boxR; exact kEv; exact rfl; intro b6)
    (apply RL.box; exact kEv; exact rfl; intro b9)
    refine kAuto ?_
    (apply RL.callK; exact kEv; exact inferInstance; exact kEvl; rotate_left; exact (fault_own w0 bc task rv ra rs (.slice Ao k co) C S r1 r2 Ah ch (by omega) kd num nm _ place); rotate_right; exact (by (repeat (first | exact Takes.nil _ | (apply Takes.cons; (repeat (first | exact Takes.pers Pers.rmp | exact Takes.pers Pers.rrow | exact Takes.ro | exact Takes.here _ _ | apply Takes.there)))))); exact rfl)
    rintro _ _ ⟨rfl, rfl⟩
    (repeat (first | (apply RL.pur; exact kPure; exact rfl) | (refine RL.guardT rfl rfl ?_) | (refine RL.guardF rfl rfl rfl rfl ?_) | (refine RL.guardU rfl rfl rfl ?_) | refine RL.nil ?_))
    refine XJ.next ?_
    refine CJ.cut (σ := Option Addr × Nat × Nat × List Value) (fun s => s.2.1 = k + (if faultE C S kd nm place = 0 then 0 else 1)) (fun _ => [(0, .pointer (some ⟨bc, 0, none⟩)), (2, .slice Ap np cp), (6, .pointer (some ⟨b6, 0, none⟩)), (9, .pointer (some ⟨b9, 0, none⟩))])
      (fun s => cel b9 172 [.map (some r1), .map (some r2), .slice Ah S.held.length ch] :: rcel b6 50 [.int .u8 kd, .int .i64 num, .string nm, .slice A kids.length cap] :: (rrow 3 1 (.slice Ap np cp) np ps :: (ckM bc task rv ra rs s.1 s.2.1 s.2.2.1 s.2.2.2 ++ (setsM C rv ra rs ++ (scM S r1 r2 Ah ch ++ F))))) ?_ ?_
    · refine kAuto ?_
      cases hf : (faultE C S kd nm place != 0)
      · have hf' : faultE C S kd nm place = 0 := by simpa using hf
        refine kAuto ?_
        refine XJ.meet (Ao, k, co, xs) ?_ (by exact kEsub) (by exact kGives)
        simp [hf']
      · have hf' : ¬ faultE C S kd nm place = 0 := by simpa using hf
        refine kAuto ?_
        (apply RL.callK; exact kEv; exact inferInstance; exact kEvl; rotate_left; exact (add_spec w0 bc task (.map (some rv)) (.map (some ra)) (.map (some rs)) Ao k co xs Ap np cp ps (faultE C S kd nm place) nm (by omega) (by omega)); rotate_right; exact (by (repeat (first | exact Takes.nil _ | (apply Takes.cons; (repeat (first | exact Takes.pers Pers.rmp | exact Takes.pers Pers.rrow | exact Takes.ro | exact Takes.here _ _ | apply Takes.there)))))); exact rfl)
        rintro _ _ ⟨rfl, A', c', xs', rfl⟩
        (repeat (first | (apply RL.pur; exact kPure; exact rfl) | (refine RL.guardT rfl rfl ?_) | (refine RL.guardF rfl rfl rfl rfl ?_) | (refine RL.guardU rfl rfl rfl ?_) | refine RL.nil ?_))
        refine XJ.meet (A', k + 1, c', xs') ?_ (by exact kEsub) (by exact kGives)
        simp [hf']
    rintro ⟨Ao1, k1, co1, xs1⟩ hk1
    simp only at hk1
    have hk1' : k1 ≤ k + 1 := by rw [hk1]; split <;> omega
    refine CJ.seqI (σ := Nat × Nat × Option Addr × Nat) (fun s => (scopeOf S kd nm).held.length ≤ s.2.2.2) (fun _ => [(0, .pointer (some ⟨bc, 0, none⟩)), (2, .slice Ap np cp), (6, .pointer (some ⟨b6, 0, none⟩)), (9, .pointer (some ⟨b9, 0, none⟩))])
      (fun s => cel b9 172 [.map (some s.1), .map (some s.2.1), .slice s.2.2.1 (scopeOf S kd nm).held.length s.2.2.2] :: rcel b6 50 [.int .u8 kd, .int .i64 num, .string nm, .slice A kids.length cap] :: (rrow 3 1 (.slice Ap np cp) np ps :: (ckM bc task rv ra rs Ao1 k1 co1 xs1 ++ (setsM C rv ra rs ++ (scM (scopeOf S kd nm) s.1 s.2.1 s.2.2.1 s.2.2.2 ++ F))))) ?_ ?_
    · refine kAuto ?_
      cases h42 : (kd == 42)
      case true =>
        obtain rfl : kd = 42 := by simpa using h42
        refine kAuto ?_
        (refine CJ.draws mixed 7 [cel b9 _ _] (by exact kGives) (dom_of (by kernel_rfl)) ?_)
        ((first | refine kAj 0 ?_ | refine kAjS 0 ?_); (first | refine kAj 1 ?_ | refine kAjS 1 ?_))
        ((first | refine kAj 3 ?_ | refine kAjS 3 ?_); (first | refine kAj 4 ?_ | refine kAjS 4 ?_))
        (first | refine kAj 6 ?_ | refine kAjS 6 ?_)
        (refine AJ.loud1 (i := 2) (by kernel_rfl) (by kernel_rfl) rfl (by kernel_rfl) (by kernel_rfl) rfl rfl rfl rfl rfl rfl (OpS.callO (mclone_spec w0 r1 (setM S.scalars) [rmp Value.string r1 (setM S.scalars)] (fun M => HasMap.rmp (Takes.here _ _))) (by exact kEv) inferInstance (by exact kEvl) (by exact rfl) (by (repeat (first | exact Takes.nil _ | (apply Takes.cons; (repeat (first | exact Takes.pers Pers.rmp | exact Takes.pers Pers.rrow | exact Takes.ro | exact Takes.here _ _ | apply Takes.there))))))) ?_ ?_)
        · rintro _ _ ⟨N, ⟨q1, rfl, rfl⟩, rfl⟩
          refine ⟨by exact kGives, ?_⟩
          (refine AJ.loud1 (i := 5) (by kernel_rfl) (by kernel_rfl) rfl (by kernel_rfl) (by kernel_rfl) rfl rfl rfl rfl rfl rfl (OpS.callO (mclone_spec w0 r2 (setM S.loops) [rmp Value.string r2 (setM S.loops)] (fun M => HasMap.rmp (Takes.here _ _))) (by exact kEv) inferInstance (by exact kEvl) (by exact rfl) (by (repeat (first | exact Takes.nil _ | (apply Takes.cons; (repeat (first | exact Takes.pers Pers.rmp | exact Takes.pers Pers.rrow | exact Takes.ro | exact Takes.here _ _ | apply Takes.there))))))) ?_ ?_)
          · rintro _ _ ⟨N, ⟨q2, rfl, rfl⟩, rfl⟩
            refine ⟨by exact kGives, ?_⟩
            (refine AJ.tail (by kernel_rfl) (by kernel_rfl) rfl (by kernel_rfl) (by kernel_rfl) (by kernel_rfl) ?_)
            refine kAuto ?_
            (apply RL.store; exact kEv; exact kEv; exact kTake; exact rfl; exact rfl; exact rfl)
            refine kAuto ?_
            (apply RL.store; exact kEv; exact kEv; exact kTake; exact rfl; exact rfl; exact rfl)
            refine kAuto ?_
            (refine CJ.draws mixed 9 [cel b9 _ _, rcel b6 _ _] (by exact kGives) (dom_of (by kernel_rfl)) ?_)
            ((first | refine kAj 0 ?_ | refine kAjS 0 ?_); (first | refine kAj 1 ?_ | refine kAjS 1 ?_); (first | refine kAj 2 ?_ | refine kAjS 2 ?_); (first | refine kAj 3 ?_ | refine kAjS 3 ?_); (first | refine kAj 4 ?_ | refine kAjS 4 ?_); (first | refine kAj 5 ?_ | refine kAjS 5 ?_); (first | refine kAj 6 ?_ | refine kAjS 6 ?_); (first | refine kAj 7 ?_ | refine kAjS 7 ?_))
            (refine AJ.loud0 (i := 8) (by kernel_rfl) (by kernel_rfl) rfl (by kernel_rfl) (by kernel_rfl) rfl rfl rfl rfl (OpS.mapUpdate (enc := Value.string) (by exact kEv) (by exact kEv) (by exact kEv) (by exact kTake)) ?_ ?_)
            · rintro _ _ rfl
              refine ⟨by exact kGives, ?_⟩
              (refine AJ.tail (by kernel_rfl) (by kernel_rfl) rfl (by kernel_rfl) (by kernel_rfl) (by kernel_rfl) ?_)
              (apply RL.mapUpdate; exact kEv; exact kEv; exact kEv; exact kTake)
              refine kAuto ?_
              rw [setM_upd, setM_upd]
              refine XJ.frz (A := mp Value.string q1 _) (by exact kTake) Frz.mp ?_
              refine XJ.frz (A := mp Value.string q2 _) (by exact kTake) Frz.mp ?_
              exact XJ.meet (q1, q2, Ah, ch) hch (by exact kEsub) (by exact kGives)
            · rintro _ _ h; exact h.elim
          · rintro _ _ ⟨_, h, _⟩; exact h.elim
        · rintro _ _ ⟨_, h, _⟩; exact h.elim
      have h42' : ¬ kd = 42 := by simpa using h42
      refine kAuto ?_
      cases h46 : (kd == 46)
      case true =>
        obtain rfl : kd = 46 := by simpa using h46
        refine kAuto ?_
        (refine CJ.draws mixed 7 [cel b9 _ _, rcel b6 _ _] (by exact kGives) (dom_of (by kernel_rfl)) ?_)
        ((first | refine kAj 0 ?_ | refine kAjS 0 ?_); (first | refine kAj 1 ?_ | refine kAjS 1 ?_))
        ((first | refine kAj 3 ?_ | refine kAjS 3 ?_); (first | refine kAj 4 ?_ | refine kAjS 4 ?_))
        (refine AJ.loud2 (i := 2) (j := 5) (by kernel_rfl) (by kernel_rfl) rfl (by kernel_rfl) (by kernel_rfl) rfl rfl rfl rfl rfl rfl rfl rfl rfl rfl rfl rfl (OpS.callIs (by exact kEv) inferInstance (by exact kEvl) (sclip_spec w0 Ah S.held.length ch hch)) (OpS.buildSlice (E := 9) [.string nm] rfl (by exact kEvl) (fun w => by kernel_rfl)) ?_ ?_ ?_ ?_)
        · rintro _ _ ⟨rfl, rfl⟩
          refine ⟨by exact kGives, ?_⟩
          (refine AJ.loud1 (i := 5) (by kernel_rfl) (by kernel_rfl) rfl (by kernel_rfl) (by kernel_rfl) rfl rfl rfl rfl rfl rfl (OpS.buildSlice (E := 9) [.string nm] rfl (by exact kEvl) (fun w => by kernel_rfl)) ?_ ?_)
          · rintro _ _ ⟨b, rfl, rfl⟩
            refine ⟨by exact kGives, ?_⟩
            (refine AJ.loud1 (i := 6) (by kernel_rfl) (by kernel_rfl) rfl (by kernel_rfl) (by kernel_rfl) rfl rfl rfl rfl rfl rfl (OpS.appendNew (m := 1) (news := [.string nm]) (by exact kEv) (by exact kEv) (fun h m => ⟨(rrow_src (by (repeat (first | exact Takes.pers Pers.rmp | exact Takes.pers Pers.rrow | exact Takes.ro | exact Takes.here _ _ | apply Takes.there))) m).clip, fun A l c e => by simp only [Value.slice.injEq] at e; omega⟩) (fun h m => ⟨rfl, by simp [Value.oneCell'], .inr ⟨_, _, _, rfl, HasAt.pt (by exact kTake) atAll⟩⟩) (by decide) (by simp only [maxLen]; omega) (by omega)) ?_ ?_)
            · rintro _ _ ⟨⟨A2, c2, rfl⟩, rfl⟩
              refine ⟨by exact kGives, ?_⟩
              (refine AJ.tail (by kernel_rfl) (by kernel_rfl) rfl (by kernel_rfl) (by kernel_rfl) (by kernel_rfl) ?_)
              refine kAuto ?_
              (apply RL.store; exact kEv; exact kEv; exact kTake; exact rfl; exact rfl; exact rfl)
              refine kAuto ?_
              refine XJ.fact (fun h m => row_cap (by exact kTake) m) (fun hc2 => ?_)
              refine XJ.frz (by exact kTake) Frz.row ?_
              refine XJ.meet (r1, r2, A2, c2) ?_ (by exact kEsub) ?_
              · simpa [scopeOf] using hc2
              · have e1 : (scopeOf S 46 nm).held.length = S.held.length + 1 := by simp [scopeOf]
                have e2 : (scopeOf S 46 nm).held.map Value.string = S.held.map Value.string ++ [.string nm] := by simp [scopeOf]
                simp only [scM, e1, e2]
                exact kGives
            · rintro _ _ h; exact h.elim
          · rintro _ _ h; exact h.elim
        · rintro _ _ h; exact h.elim
        · rintro _ _ ⟨b, rfl, rfl⟩
          refine ⟨by exact kGives, ?_⟩
          (refine AJ.loud1 (i := 2) (by kernel_rfl) (by kernel_rfl) rfl (by kernel_rfl) (by kernel_rfl) rfl rfl rfl rfl rfl rfl (OpS.callIs (by exact kEv) inferInstance (by exact kEvl) (sclip_spec w0 Ah S.held.length ch hch)) ?_ ?_)
          · rintro _ _ ⟨rfl, rfl⟩
            refine ⟨by exact kGives, ?_⟩
            (refine AJ.loud1 (i := 6) (by kernel_rfl) (by kernel_rfl) rfl (by kernel_rfl) (by kernel_rfl) rfl rfl rfl rfl rfl rfl (OpS.appendNew (m := 1) (news := [.string nm]) (by exact kEv) (by exact kEv) (fun h m => ⟨(rrow_src (by (repeat (first | exact Takes.pers Pers.rmp | exact Takes.pers Pers.rrow | exact Takes.ro | exact Takes.here _ _ | apply Takes.there))) m).clip, fun A l c e => by simp only [Value.slice.injEq] at e; omega⟩) (fun h m => ⟨rfl, by simp [Value.oneCell'], .inr ⟨_, _, _, rfl, HasAt.pt (by exact kTake) atAll⟩⟩) (by decide) (by simp only [maxLen]; omega) (by omega)) ?_ ?_)
            · rintro _ _ ⟨⟨A2, c2, rfl⟩, rfl⟩
              refine ⟨by exact kGives, ?_⟩
              (refine AJ.tail (by kernel_rfl) (by kernel_rfl) rfl (by kernel_rfl) (by kernel_rfl) (by kernel_rfl) ?_)
              refine kAuto ?_
              (apply RL.store; exact kEv; exact kEv; exact kTake; exact rfl; exact rfl; exact rfl)
              refine kAuto ?_
              refine XJ.fact (fun h m => row_cap (by exact kTake) m) (fun hc2 => ?_)
              refine XJ.frz (by exact kTake) Frz.row ?_
              refine XJ.meet (r1, r2, A2, c2) ?_ (by exact kEsub) ?_
              · simpa [scopeOf] using hc2
              · have e1 : (scopeOf S 46 nm).held.length = S.held.length + 1 := by simp [scopeOf]
                have e2 : (scopeOf S 46 nm).held.map Value.string = S.held.map Value.string ++ [.string nm] := by simp [scopeOf]
                simp only [scM, e1, e2]
                exact kGives
            · rintro _ _ h; exact h.elim
          · rintro _ _ h; exact h.elim
        · rintro _ _ h; exact h.elim
      have h46' : ¬ kd = 46 := by simpa using h46
      refine kAuto ?_
      have hS : scopeOf S kd nm = S := by rw [scopeOf, if_neg h42', if_neg h46']
      rw [hS]
      exact XJ.meet (r1, r2, Ah, ch) hch (by exact kEsub) (by exact kGives)
    rintro ⟨q1, q2, Ah1, ch1⟩ hch1
    simp only at hch1
    refine kAuto ?_
    have hS2 : (scopeOf S kd nm).held.length ≤ S.held.length + 1 := by
      unfold scopeOf
      split
      · simp
      · split <;> simp
    have hsub : ∀ (l : List Node) t S, visitK C l t S ≤ Node.sizeAll l := by
      intro l
      induction l with
      | nil => intro t S; simp [visitK, Node.sizeAll]
      | cons x r ih' => intro t S; have := ih' false S; have := visit_le C x t S; rw [visitK, Node.sizeAll]; omega
    have hall := hsub kids (kd == 40 || kd == 44) (scopeOf S kd nm)
    have hfin : k + visitN C (.mk kd num nm kids) place S = k1 + visitK C kids (kd == 40 || kd == 44) (scopeOf S kd nm) := by rw [visitN, hk1]; omega
    rw [hfin]
    refine CJ.loop (σ := Nat × Option Addr × Nat × Nat × List Value) (fun s => s.1 ≤ kids.length ∧ s.2.2.1 + visitK C (kids.drop s.1) (s.1 == 0 && (kd == 40 || kd == 44)) (scopeOf S kd nm) = k1 + visitK C kids (kd == 40 || kd == 44) (scopeOf S kd nm) ∧ s.2.2.1 + Node.sizeAll (kids.drop s.1) ≤ k1 + Node.sizeAll kids)
      (fun s => [(60, .int .i64 (s.1 : Int)), (59, .int .i64 kids.length), (58, .slice A kids.length cap), (0, .pointer (some ⟨bc, 0, none⟩)), (2, .slice Ap np cp), (6, .pointer (some ⟨b6, 0, none⟩)), (9, .pointer (some ⟨b9, 0, none⟩))])
      (fun s => cel b9 172 [.map (some q1), .map (some q2), .slice Ah1 (scopeOf S kd nm).held.length ch1] :: rcel b6 50 [.int .u8 kd, .int .i64 num, .string nm, .slice A kids.length cap] :: (rrow 3 1 (.slice Ap np cp) np ps :: (ckM bc task rv ra rs s.2.1 s.2.2.1 s.2.2.2.1 s.2.2.2.2 ++ (setsM C rv ra rs ++ (scM (scopeOf S kd nm) q1 q2 Ah1 ch1 ++ F)))))
      (fun s => kids.length - s.1) (0, Ao1, k1, co1, xs1) ⟨Nat.zero_le _, by simp, by simp⟩ (by exact kEsub) (by exact kGives) ?_
    rintro ⟨i, Ao2, k2, co2, xs2⟩ ⟨hi, hsum, hsz2⟩
    simp only at hi hsum hsz2
    refine kAuto ?_
    cases hlt : decide ((i : Int) < (kids.length : Int))
    · have hge : i = kids.length := by have := of_decide_eq_false hlt; omega
      subst hge
      rw [List.drop_length] at hsum
      simp only [visitK, Nat.add_zero] at hsum
      refine kAuto ?_
      refine XJ.end0 rfl (ckM bc task rv ra rs Ao2 k2 co2 xs2) (by exact kGives) ⟨rfl, Ao2, co2, xs2, by rw [← hsum]⟩
    · have hlt' : i < kids.length := by have := of_decide_eq_true hlt; omega
      obtain ⟨b, o, r, rfl, hb, hrl, hr⟩ := hN.at_ i hlt'
      obtain ⟨A4, c4, e4, _⟩ := hr.kids
      have hone : r.all (·.oneCell') = true := by rw [e4]; rfl
      have hsz1 := Node.size_mem (List.getElem_mem hlt')
      have hd : kids.drop i = kids[i] :: kids.drop (i + 1) := List.drop_eq_getElem_cons hlt'
      have hstep : ∀ t, visitK C (kids.drop i) t (scopeOf S kd nm) = visitN C kids[i] t (scopeOf S kd nm) + visitK C (kids.drop (i + 1)) false (scopeOf S kd nm) := by intro t; rw [hd, visitK]
      have hnext : ((i + 1 == 0) && (kd == 40 || kd == 44)) = false := by simp
      rw [hd, Node.sizeAll] at hsz2
      have hv := visit_le C kids[i] (i == 0 && (kd == 40 || kd == 44)) (scopeOf S kd nm)
      refine kAuto ?_
      apply RL.pur; (apply OpP.indexAddr; exact kEv; exact kEv; exact hlt'); exact rfl
      apply RL.pur; (apply OpP.loadA; exact kEv; exact HasAt.base hb; exact hrl); exact rfl
      (apply RL.alloc; exact rfl; exact rfl; intro b12)
      refine kAuto ?_
      (apply RL.storeW; exact kEv; exact kEv; exact kTake; exact hrl; exact rfl; exact hone)
      (repeat (first | (apply RL.pur; exact kPure; exact rfl) | (refine RL.guardT rfl rfl ?_) | (refine RL.guardF rfl rfl rfl rfl ?_) | (refine RL.guardU rfl rfl rfl ?_) | refine RL.nil ?_))
      refine XJ.next ?_
      obtain ⟨tgt, htgt⟩ : ∃ tgt, tgt = (i == 0 && (kd == 40 || kd == 44)) := ⟨_, rfl⟩
      rw [← htgt] at hsum hv
      refine CJ.seqI (σ := Unit) (fun _ => True) (fun _ => [(13, .bool tgt), (11, .int .i64 (i : Int)), (12, .pointer (some ⟨b12, 0, none⟩)), (60, .int .i64 (i : Int)), (59, .int .i64 kids.length), (58, .slice (some ⟨b, o, none⟩) kids.length cap), (0, .pointer (some ⟨bc, 0, none⟩)), (2, .slice Ap np cp), (6, .pointer (some ⟨b6, 0, none⟩)), (9, .pointer (some ⟨b9, 0, none⟩))])
        (fun _ => cel b12 50 r :: cel b9 172 [.map (some q1), .map (some q2), .slice Ah1 (scopeOf S kd nm).held.length ch1] :: rcel b6 50 [.int .u8 kd, .int .i64 num, .string nm, .slice (some ⟨b, o, none⟩) kids.length cap] :: (rrow 3 1 (.slice Ap np cp) np ps :: (ckM bc task rv ra rs Ao2 k2 co2 xs2 ++ (setsM C rv ra rs ++ (scM (scopeOf S kd nm) q1 q2 Ah1 ch1 ++ F))))) ?_ ?_
      · refine kAuto ?_
        cases h0 : ((i : Int) == 0)
        · have e0 : tgt = false := by rw [htgt]; simp at h0; simp [h0]
          subst e0
          refine kAuto ?_
          exact XJ.meet () trivial (by exact kEsub) (Gives.refl _)
        · refine kAuto ?_
          cases h4 : (kd == 40)
          · refine kAuto ?_
            have e0 : tgt = (kd == 44) := by rw [htgt, h4]; simp at h0; simp [h0]
            rw [← e0]
            cases tgt
            · refine kAuto ?_
              exact XJ.meet () trivial (by exact kEsub) (Gives.refl _)
            · refine kAuto ?_
              exact XJ.meet () trivial (by exact kEsub) (Gives.refl _)
          · have e0 : tgt = true := by rw [htgt, h4]; simp at h0; simp [h0]
            subst e0
            refine kAuto ?_
            exact XJ.meet () trivial (by exact kEsub) (Gives.refl _)
      rintro ⟨⟩ -
      refine CJ.env (L' := [(13, .bool tgt), (11, .int .i64 (i : Int)), (12, .pointer (some ⟨b12, 0, none⟩)), (60, .int .i64 (i : Int)), (59, .int .i64 kids.length), (58, .slice (some ⟨b, o, none⟩) kids.length cap), (0, .pointer (some ⟨bc, 0, none⟩)), (2, .slice Ap np cp), (6, .pointer (some ⟨b6, 0, none⟩)), (9, .pointer (some ⟨b9, 0, none⟩))]) (fun _ _ h => h) ?_
      (refine CJ.draws mixed 10 [cel b12 _ _, cel b9 _ _] (by exact kGives) (dom_of (by kernel_rfl)) ?_)
      ((first | refine kAj 0 ?_ | refine kAjS 0 ?_); (first | refine kAj 1 ?_ | refine kAjS 1 ?_); (first | refine kAj 2 ?_ | refine kAjS 2 ?_))
      (first | refine kAj 4 ?_ | refine kAjS 4 ?_)
      (first | refine kAj 7 ?_ | refine kAjS 7 ?_)
      (first | refine kAj 8 ?_ | refine kAjS 8 ?_)
      (refine AJ.loud2 (i := 3) (j := 5) (by kernel_rfl) (by kernel_rfl) rfl (by kernel_rfl) (by kernel_rfl) rfl rfl rfl rfl rfl rfl rfl rfl rfl rfl rfl rfl (OpS.callIs (by exact kEv) inferInstance (by exact kEvl) (iclip_spec w0 Ap np cp hcp)) (OpS.buildSlice (E := 3) [.int .i64 (i : Int)] rfl (by exact kEvl) (fun w => by kernel_rfl)) ?_ ?_ ?_ ?_)
      · rintro _ _ ⟨rfl, rfl⟩
        refine ⟨by exact kGives, ?_⟩
        (refine AJ.loud1 (i := 5) (by kernel_rfl) (by kernel_rfl) rfl (by kernel_rfl) (by kernel_rfl) rfl rfl rfl rfl rfl rfl (OpS.buildSlice (E := 3) [.int .i64 (i : Int)] rfl (by exact kEvl) (fun w => by kernel_rfl)) ?_ ?_)
        · rintro _ _ ⟨b5, rfl, rfl⟩
          refine ⟨by exact kGives, ?_⟩
          (refine AJ.loud1 (i := 6) (by kernel_rfl) (by kernel_rfl) rfl (by kernel_rfl) (by kernel_rfl) rfl rfl rfl rfl rfl rfl (OpS.appendNew (m := 1) (news := [.int .i64 (i : Int)]) (by exact kEv) (by exact kEv) (fun h m => ⟨(rrow_src (by (repeat (first | exact Takes.pers Pers.rmp | exact Takes.pers Pers.rrow | exact Takes.ro | exact Takes.here _ _ | apply Takes.there))) m).clip, fun A l c e => by simp only [Value.slice.injEq] at e; omega⟩) (fun h m => ⟨rfl, by simp [Value.oneCell'], .inr ⟨_, _, _, rfl, HasAt.pt (by exact kTake) atAll⟩⟩) (by decide) (by simp only [maxLen]; omega) (by omega)) ?_ ?_)
          · rintro _ _ ⟨⟨A2, c2, rfl⟩, rfl⟩
            refine ⟨by exact kGives, ?_⟩
            refine AJ.fact (fun h m => row_cap (by exact kTake) m) (fun hc2 => ?_)
            (refine AJ.loud1 (i := 9) (by kernel_rfl) (by kernel_rfl) rfl (by kernel_rfl) (by kernel_rfl) rfl rfl rfl rfl rfl rfl (OpS.callO (Spec.frz Frz.row (ih kids[i] r (by omega) hr (by omega) bc task rv ra rs Ao2 k2 co2 xs2 (scopeOf S kd nm) q1 q2 Ah1 ch1 A2 (np + 1) c2 _ tgt (by omega) (by omega) (by omega) hc2 hch1)) (by exact kEv) inferInstance (by exact kEvl) (by exact rfl) (by (repeat (first | exact Takes.nil _ | (apply Takes.cons; (repeat (first | exact Takes.pers Pers.rmp | exact Takes.pers Pers.rrow | exact Takes.ro | exact Takes.here _ _ | apply Takes.there))))))) ?_ ?_)
            · rintro _ _ ⟨N, ⟨rfl, A3, c3, xs3, rfl⟩, rfl⟩
              refine ⟨by exact kGives, ?_⟩
              (refine AJ.done (by kernel_rfl) (by kernel_rfl) rfl (by kernel_rfl) ?_)
              refine kAuto ?_
              rw [i64_succ i (by omega)]
              refine XJ.round (i + 1, A3, k2 + visitN C kids[i] tgt (scopeOf S kd nm), c3, xs3) ⟨by simp only; omega, ?_, by simp only; omega⟩ (by simp only; omega) (by exact kEsub) (by exact kGives)
              simp only
              rw [← hsum, hstep, hnext]
              omega
            · rintro _ _ ⟨_, h, _⟩; exact h.elim
          · rintro _ _ h; exact h.elim
        · rintro _ _ h; exact h.elim
      · rintro _ _ h; exact h.elim
      · rintro _ _ ⟨b5, rfl, rfl⟩
        refine ⟨by exact kGives, ?_⟩
        (refine AJ.loud1 (i := 3) (by kernel_rfl) (by kernel_rfl) rfl (by kernel_rfl) (by kernel_rfl) rfl rfl rfl rfl rfl rfl (OpS.callIs (by exact kEv) inferInstance (by exact kEvl) (iclip_spec w0 Ap np cp hcp)) ?_ ?_)
        · rintro _ _ ⟨rfl, rfl⟩
          refine ⟨by exact kGives, ?_⟩
          (refine AJ.loud1 (i := 6) (by kernel_rfl) (by kernel_rfl) rfl (by kernel_rfl) (by kernel_rfl) rfl rfl rfl rfl rfl rfl (OpS.appendNew (m := 1) (news := [.int .i64 (i : Int)]) (by exact kEv) (by exact kEv) (fun h m => ⟨(rrow_src (by (repeat (first | exact Takes.pers Pers.rmp | exact Takes.pers Pers.rrow | exact Takes.ro | exact Takes.here _ _ | apply Takes.there))) m).clip, fun A l c e => by simp only [Value.slice.injEq] at e; omega⟩) (fun h m => ⟨rfl, by simp [Value.oneCell'], .inr ⟨_, _, _, rfl, HasAt.pt (by exact kTake) atAll⟩⟩) (by decide) (by simp only [maxLen]; omega) (by omega)) ?_ ?_)
          · rintro _ _ ⟨⟨A2, c2, rfl⟩, rfl⟩
            refine ⟨by exact kGives, ?_⟩
            refine AJ.fact (fun h m => row_cap (by exact kTake) m) (fun hc2 => ?_)
            (refine AJ.loud1 (i := 9) (by kernel_rfl) (by kernel_rfl) rfl (by kernel_rfl) (by kernel_rfl) rfl rfl rfl rfl rfl rfl (OpS.callO (Spec.frz Frz.row (ih kids[i] r (by omega) hr (by omega) bc task rv ra rs Ao2 k2 co2 xs2 (scopeOf S kd nm) q1 q2 Ah1 ch1 A2 (np + 1) c2 _ tgt (by omega) (by omega) (by omega) hc2 hch1)) (by exact kEv) inferInstance (by exact kEvl) (by exact rfl) (by (repeat (first | exact Takes.nil _ | (apply Takes.cons; (repeat (first | exact Takes.pers Pers.rmp | exact Takes.pers Pers.rrow | exact Takes.ro | exact Takes.here _ _ | apply Takes.there))))))) ?_ ?_)
            · rintro _ _ ⟨N, ⟨rfl, A3, c3, xs3, rfl⟩, rfl⟩
              refine ⟨by exact kGives, ?_⟩
              (refine AJ.done (by kernel_rfl) (by kernel_rfl) rfl (by kernel_rfl) ?_)
              refine kAuto ?_
              rw [i64_succ i (by omega)]
              refine XJ.round (i + 1, A3, k2 + visitN C kids[i] tgt (scopeOf S kd nm), c3, xs3) ⟨by simp only; omega, ?_, by simp only; omega⟩ (by simp only; omega) (by exact kEsub) (by exact kGives)
              simp only
              rw [← hsum, hstep, hnext]
              omega
            · rintro _ _ ⟨_, h, _⟩; exact h.elim
          · rintro _ _ h; exact h.elim
        · rintro _ _ h; exact h.elim
      · rintro _ _ h; exact h.elim
end Go.Proofs.YtgmapenlgammfaaGreatDoor
