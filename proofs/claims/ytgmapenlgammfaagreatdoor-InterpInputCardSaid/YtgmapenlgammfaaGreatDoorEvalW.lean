/- The package interp: the walk through eval. -/
import Derived.Test.YtgmapenlgammfaaGreatDoorRange
set_option linter.all false
namespace Go.Proofs.YtgmapenlgammfaaGreatDoor
open Go

theorem eval_spec (w0 : World) (rv ra : Nat) (ρ : ByteArray → Option Int) (α : ByteArray → Option (List Int)) (hE : EnvB w0 rv ra ρ α) : ∀ (m : Nat) (n : Node) (cs : List Value), n.size ≤ m → n.size < 4611686018427387904 → NodeR w0 n cs → isB n 1 = true →
    Spec Tryz.prog w0 70 #[.agg #[.map (some rv), .map (some ra)], .agg cs.toArray] [] (IsE (resE (evalE ρ α n))) := by
  intro m
  induction m with
  | zero => intro n cs h; have := n.size_pos; omega
  | succ m ih =>
    intro n cs hm hs hR hB
    obtain ⟨A, cap, rfl, hcap, hN⟩ := hR.kids
    obtain ⟨kd, num, nm, kids⟩ := n
    simp only [Node.kind, Node.num, Node.name, Node.kids] at *
    obtain ⟨αv, hα, hα0, hα1⟩ := hE.arrs
    have hvars := hE.vars
    refine Spec.enter (args := [_, _]) Tryz.func70 rfl rfl rfl (fun F => ?_)
    refine kAutoB ?_
    (apply RL.boxR; exact kEv; exact rfl; intro b2)
    (apply RL.boxR; exact kEv; exact rfl; intro b3)
    refine kAutoB ?_
    rcases expr_cases hB with ⟨rfl, rfl⟩ | ⟨rfl, rfl⟩ | ⟨rfl, a, rfl, ha⟩ | ⟨hk, a, rfl, ha⟩ | ⟨hk, a, b, rfl, ha, hb⟩
    · refine kAutoB ?_
      exact XJ.ret1 rfl rfl [] (by exact kGives) ⟨rfl, rfl⟩
    · refine kAutoB ?_
      cases hv : ρ nm with
      | none =>
        apply RL.pur; (apply OpP.lookupNone; exact kEv; exact kEv; exact hvars.has; exact (by simp [hv])); exact rfl
        refine kAutoB ?_
        (apply RL.callE; exact kEv; exact inferInstance; exact kEvl; exact (fail_spec w0 6); exact rfl)
        · intro v hv
          cases hv
        · intro c hc
          simp at hc
          subst hc
          refine kAutoB ?_
          exact XJ.panics [] (by exact kGives) ⟨by rw [evalE, evalOp, hv]; rfl, rfl⟩
      | some v =>
        apply RL.pur; (apply OpP.lookupSome; exact kEv; exact kEv; exact hvars.has; exact (by rw [hv]; rfl)); exact rfl
        refine kAutoB ?_
        exact XJ.ret1 rfl rfl [] (by exact kGives) ⟨by rw [evalE, evalOp, hv]; rfl, rfl⟩
    · obtain ⟨b, o, r, e1, hb, hrl, hr⟩ := hN.at_ 0 (by simp)
      subst e1
      simp only [List.getElem_cons_zero, Nat.zero_mul, Nat.add_zero] at hb hr
      have hsz : a.size < (Node.mk 3 num nm [a]).size := Node.size_kid (n := .mk 3 num nm [a]) (by simp [Node.kids])
      have hrec := ih a r (by omega) (by omega) hr ha
      have hA := array_spec w0 rv ra αv hα nm
      refine kAutoB ?_
      cases hαn : α nm with
      | none =>
        rw [hα0 nm hαn] at hA
        (apply RL.callE; exact kEv; exact inferInstance; exact kEvl; exact hA; exact rfl)
        · intro v hv
          cases hv
        · intro c hc
          simp at hc
          subst hc
          refine kAutoB ?_
          exact XJ.panics [] (by exact kGives) ⟨by rw [evalE, evalOp, hαn]; rfl, rfl⟩
      | some l =>
        obtain ⟨u, hu, A1, c1, rfl, hc1, hrl1⟩ := hα1 nm l hαn
        rw [hu] at hA
        (apply RL.callE; exact kEv; exact inferInstance; exact kEvl; exact hA; exact rfl)
        · intro v hv
          injection hv with hv
          subst hv
          refine kAutoB ?_
          (refine CJ.draws mixed 11 [rcel b2 _ _, rcel b3 _ _] (by exact kGives) (dom_of (by kernel_rfl)) ?_)
          ((first | refine kAjB 0 ?_ | refine kAjS 0 ?_); (first | refine kAjB 1 ?_ | refine kAjS 1 ?_); (first | refine kAjB 2 ?_ | refine kAjS 2 ?_); (first | refine kAjB 3 ?_ | refine kAjS 3 ?_))
          (apply AJ.pur (i := 4); exact rfl; exact rfl; exact rfl; exact rfl; exact rfl; exact rfl; exact rfl; exact rfl; exact rfl; (exact OpP.indexAddrC 0 (by exact kEv) rfl (by simp) o (by omega)))
          (apply AJ.pur (i := 5); exact rfl; exact rfl; exact rfl; exact rfl; exact rfl; exact rfl; exact rfl; exact rfl; exact rfl; (apply OpP.loadA; exact kEv; exact HasAt.base hb; exact hrl))
          refine kAjB 7 ?_
          (refine AJ.loud1 (i := 6) (by kernel_rfl) (by kernel_rfl) rfl (by kernel_rfl) (by kernel_rfl) rfl rfl rfl rfl rfl rfl (OpS.callE (by exact kEv) inferInstance (by exact kEvl) hrec) ?_ ?_)
          · rintro v _ ⟨hv, rfl⟩
            refine ⟨by exact kGives, ?_⟩
            cases hev : evalE ρ α a with
            | error e => rw [hev] at hv; cases hv
            | ok i =>
              rw [hev] at hv
              injection hv with hv
              subst hv
              have hri : I32 i := evalE_range hE.r1 hE.r2 a i hev
              (refine AJ.loud1 (i := 8) (by kernel_rfl) (by kernel_rfl) rfl (by kernel_rfl) (by kernel_rfl) rfl rfl rfl rfl rfl rfl (OpS.callE (by exact kEv) inferInstance (by exact kEvl) (index_spec16 w0 i A1 l.length c1)) ?_ ?_)
              · rintro v _ ⟨hv, rfl⟩
                refine ⟨by exact kGives, ?_⟩
                cases hi : idxB i l.length with
                | false => rw [hi] at hv; cases hv
                | true =>
                  rw [hi, if_pos rfl] at hv
                  injection hv with hv
                  subst hv
                  have hw : IntKind.i64.wrap i = ((i.toNat : Nat) : Int) := by
                    unfold I32 at hri
                    unfold idxB at hi
                    simp at hi
                    simp only [IntKind.wrap, IntKind.signed, IntKind.bits]
                    simp
                    omega
                  have hlt : i.toNat < l.length := by
                    unfold idxB at hi
                    simp only [Bool.and_eq_true, Bool.not_eq_true', decide_eq_false_iff_not] at hi
                    omega
                  rw [hw]
                  obtain ⟨b5, o5, e5, _, hb5⟩ := hrl1.at_ i.toNat (by simpa using hlt)
                  subst e5
                  simp only [List.getElem_map] at hb5
                  (apply AJ.pur (i := 9); exact rfl; exact rfl; exact rfl; exact rfl; exact rfl; exact rfl; exact rfl; exact rfl; exact rfl; (apply OpP.indexAddr; exact kEv; exact kEv; exact hlt))
                  (apply AJ.pur (i := 10); exact rfl; exact rfl; exact rfl; exact rfl; exact rfl; exact rfl; exact rfl; exact rfl; exact rfl; (apply OpP.load; exact kEv; exact HasAt.base hb5))
                  (refine AJ.tail (by kernel_rfl) (by kernel_rfl) rfl (by kernel_rfl) (by kernel_rfl) (by kernel_rfl) ?_)
                  refine kAutoB ?_
                  refine XJ.ret1 rfl rfl [] (by exact kGives) ⟨?_, rfl⟩
                  have e : evalE ρ α (.mk 3 num nm [a]) = .ok l[i.toNat] := by
                    simp only [evalE, evalOp, hαn, evalL, List.getD_cons_zero, hev, hi, hw, Int.toNat_natCast]
                    simp [List.getD_eq_getElem?_getD, hlt]
                  rw [e]
                  rfl
              · rintro c _ ⟨hc, rfl⟩
                refine kAutoB ?_
                refine XJ.panics [] (by exact kGives) ⟨?_, rfl⟩
                cases hi : idxB i l.length with
                | true => rw [hi, if_pos rfl] at hc; cases hc
                | false =>
                  rw [hi] at hc
                  have e : evalE ρ α (.mk 3 num nm [a]) = .error 11 := by
                    simp only [evalE, evalOp, hαn, evalL, List.getD_cons_zero, hev, hi]
                    rfl
                  rw [e]
                  exact hc
          · rintro c _ ⟨hc, rfl⟩
            refine kAutoB ?_
            refine XJ.panics [] (by exact kGives) ⟨?_, rfl⟩
            rw [evalE, evalOp, hαn, ← hc]
            cases hev : evalE ρ α a with
            | error e => simp [evalL, hev, resE]
            | ok i => rw [hev] at hc; cases hc
        · intro c hc
          cases hc
    · obtain ⟨b, o, r, e1, hb, hrl, hr⟩ := hN.at_ 0 (by simp)
      subst e1
      simp only [List.getElem_cons_zero, Nat.zero_mul, Nat.add_zero] at hb hr
      have hsz : a.size < (Node.mk kd num nm [a]).size := Node.size_kid (n := .mk kd num nm [a]) (by simp [Node.kids])
      have hrec := ih a r (by omega) (by omega) hr ha
      have hne : ¬ kd = 1 ∧ ¬ kd = 2 ∧ ¬ kd = 3 := by omega
      have key : ∀ (hev : ∃ i, evalE ρ α a = .ok i), True := fun _ => trivial
      cases g1 : (kd == 1)
      case true => simp at g1; omega
      refine kAutoB ?_
      cases g2 : (kd == 2)
      case true => simp at g2; omega
      refine kAutoB ?_
      cases g3 : (kd == 3)
      case true => simp at g3; omega
      refine kAutoB ?_
      have hw : ∀ _ : Nat, evalE ρ α (.mk kd num nm [a]) = (match evalE ρ α a with | .error e => .error e | .ok x => if (unaryI kd x).2 = 0 then .ok (unaryI kd x).1 else .error (unaryI kd x).2) := by
        intro _
        rw [evalE, evalOp, if_neg hne.1, if_neg hne.2.1, if_neg hne.2.2, if_pos hk]
        rfl
      rw [hw 0]
      rcases hk with rfl | rfl
      · refine kAutoB ?_
        (refine CJ.draws mixed 13 [rcel b2 _ _, rcel b3 _ _] (by exact kGives) (dom_of (by kernel_rfl)) ?_)
        ((first | refine kAjB 0 ?_ | refine kAjS 0 ?_); (first | refine kAjB 1 ?_ | refine kAjS 1 ?_); (first | refine kAjB 2 ?_ | refine kAjS 2 ?_); (first | refine kAjB 3 ?_ | refine kAjS 3 ?_); (first | refine kAjB 4 ?_ | refine kAjS 4 ?_))
        (apply AJ.pur (i := 5); exact rfl; exact rfl; exact rfl; exact rfl; exact rfl; exact rfl; exact rfl; exact rfl; exact rfl; (exact OpP.indexAddrC 0 (by exact kEv) rfl (by simp) o (by omega)))
        (apply AJ.pur (i := 6); exact rfl; exact rfl; exact rfl; exact rfl; exact rfl; exact rfl; exact rfl; exact rfl; exact rfl; (apply OpP.loadA; exact kEv; exact HasAt.base hb; exact hrl))
        (refine AJ.loud1 (i := 7) (by kernel_rfl) (by kernel_rfl) rfl (by kernel_rfl) (by kernel_rfl) rfl rfl rfl rfl rfl rfl (OpS.callE (by exact kEv) inferInstance (by exact kEvl) hrec) ?_ ?_)
        · rintro v _ ⟨hv, rfl⟩
          refine ⟨by exact kGives, ?_⟩
          cases hev : evalE ρ α a with
          | error e => rw [hev] at hv; cases hv
          | ok i =>
            rw [hev] at hv
            injection hv with hv
            subst hv
            (refine AJ.loud1 (i := 8) (by kernel_rfl) (by kernel_rfl) rfl (by kernel_rfl) (by kernel_rfl) rfl rfl rfl rfl rfl rfl (OpS.callIs (by exact kEv) inferInstance (by exact kEvl) (unary_spec w0 4 i)) ?_ ?_)
            · rintro _ _ ⟨rfl, rfl⟩
              refine ⟨by exact kGives, ?_⟩
              ((first | refine kAjB 9 ?_ | refine kAjS 9 ?_); (first | refine kAjB 10 ?_ | refine kAjS 10 ?_); (first | refine kAjB 11 ?_ | refine kAjS 11 ?_); (first | refine kAjB 12 ?_ | refine kAjS 12 ?_))
              (refine AJ.tail (by kernel_rfl) (by kernel_rfl) rfl (by kernel_rfl) (by kernel_rfl) (by kernel_rfl) ?_)
              refine kAutoB ?_
              (apply RL.callE; exact kEv; exact inferInstance; exact kEvl; exact (fail_spec w0 (unaryI 4 i).2); exact rfl)
              · intro v hv
                refine kAutoB ?_
                refine XJ.ret1 rfl rfl [] (by exact kGives) ⟨?_, rfl⟩
                by_cases h0 : (unaryI 4 i).2 = 0
                · simp only [h0, if_true]; rfl
                · rw [if_neg h0] at hv; cases hv
              · intro c hc
                refine kAutoB ?_
                refine XJ.panics [] (by exact kGives) ⟨?_, rfl⟩
                by_cases h0 : (unaryI 4 i).2 = 0
                · rw [if_pos h0] at hc; cases hc
                · rw [if_neg h0] at hc; simp only [h0, if_false]; exact hc
            · rintro _ _ h; exact h.elim
        · rintro c _ ⟨hc, rfl⟩
          refine kAutoB ?_
          refine XJ.panics [] (by exact kGives) ⟨?_, rfl⟩
          rw [← hc]
          cases hev : evalE ρ α a with
          | error e => rfl
          | ok i => rw [hev] at hc; cases hc
      · refine kAutoB ?_
        (refine CJ.draws mixed 13 [rcel b2 _ _, rcel b3 _ _] (by exact kGives) (dom_of (by kernel_rfl)) ?_)
        ((first | refine kAjB 0 ?_ | refine kAjS 0 ?_); (first | refine kAjB 1 ?_ | refine kAjS 1 ?_); (first | refine kAjB 2 ?_ | refine kAjS 2 ?_); (first | refine kAjB 3 ?_ | refine kAjS 3 ?_); (first | refine kAjB 4 ?_ | refine kAjS 4 ?_))
        (apply AJ.pur (i := 5); exact rfl; exact rfl; exact rfl; exact rfl; exact rfl; exact rfl; exact rfl; exact rfl; exact rfl; (exact OpP.indexAddrC 0 (by exact kEv) rfl (by simp) o (by omega)))
        (apply AJ.pur (i := 6); exact rfl; exact rfl; exact rfl; exact rfl; exact rfl; exact rfl; exact rfl; exact rfl; exact rfl; (apply OpP.loadA; exact kEv; exact HasAt.base hb; exact hrl))
        (refine AJ.loud1 (i := 7) (by kernel_rfl) (by kernel_rfl) rfl (by kernel_rfl) (by kernel_rfl) rfl rfl rfl rfl rfl rfl (OpS.callE (by exact kEv) inferInstance (by exact kEvl) hrec) ?_ ?_)
        · rintro v _ ⟨hv, rfl⟩
          refine ⟨by exact kGives, ?_⟩
          cases hev : evalE ρ α a with
          | error e => rw [hev] at hv; cases hv
          | ok i =>
            rw [hev] at hv
            injection hv with hv
            subst hv
            (refine AJ.loud1 (i := 8) (by kernel_rfl) (by kernel_rfl) rfl (by kernel_rfl) (by kernel_rfl) rfl rfl rfl rfl rfl rfl (OpS.callIs (by exact kEv) inferInstance (by exact kEvl) (unary_spec w0 5 i)) ?_ ?_)
            · rintro _ _ ⟨rfl, rfl⟩
              refine ⟨by exact kGives, ?_⟩
              ((first | refine kAjB 9 ?_ | refine kAjS 9 ?_); (first | refine kAjB 10 ?_ | refine kAjS 10 ?_); (first | refine kAjB 11 ?_ | refine kAjS 11 ?_); (first | refine kAjB 12 ?_ | refine kAjS 12 ?_))
              (refine AJ.tail (by kernel_rfl) (by kernel_rfl) rfl (by kernel_rfl) (by kernel_rfl) (by kernel_rfl) ?_)
              refine kAutoB ?_
              (apply RL.callE; exact kEv; exact inferInstance; exact kEvl; exact (fail_spec w0 (unaryI 5 i).2); exact rfl)
              · intro v hv
                refine kAutoB ?_
                refine XJ.ret1 rfl rfl [] (by exact kGives) ⟨?_, rfl⟩
                by_cases h0 : (unaryI 5 i).2 = 0
                · simp only [h0, if_true]; rfl
                · rw [if_neg h0] at hv; cases hv
              · intro c hc
                refine kAutoB ?_
                refine XJ.panics [] (by exact kGives) ⟨?_, rfl⟩
                by_cases h0 : (unaryI 5 i).2 = 0
                · rw [if_pos h0] at hc; cases hc
                · rw [if_neg h0] at hc; simp only [h0, if_false]; exact hc
            · rintro _ _ h; exact h.elim
        · rintro c _ ⟨hc, rfl⟩
          refine kAutoB ?_
          refine XJ.panics [] (by exact kGives) ⟨?_, rfl⟩
          rw [← hc]
          cases hev : evalE ρ α a with
          | error e => rfl
          | ok i => rw [hev] at hc; cases hc
    · obtain ⟨b1, o1, r1, e1, hb1, hrl1, hr1⟩ := hN.at_ 0 (by simp)
      obtain ⟨b4, o4, r4, e4, hb4, hrl4, hr4⟩ := hN.at_ 1 (by simp)
      subst e1
      obtain ⟨rfl, rfl⟩ : b1 = b4 ∧ o1 = o4 := by
        simp only [Option.some.injEq, Addr.mk.injEq, and_true] at e4
        exact e4
      simp only [List.getElem_cons_zero, List.getElem_cons_succ, Nat.zero_mul, Nat.add_zero, Nat.one_mul] at hb1 hb4 hr1 hr4
      have hsz1 : a.size < (Node.mk kd num nm [a, b]).size := Node.size_kid (n := .mk kd num nm [a, b]) (by simp [Node.kids])
      have hsz4 : b.size < (Node.mk kd num nm [a, b]).size := Node.size_kid (n := .mk kd num nm [a, b]) (by simp [Node.kids])
      have hrec1 := ih a r1 (by omega) (by omega) hr1 ha
      have hrec4 := ih b r4 (by omega) (by omega) hr4 hb
      cases g1 : (kd == 1)
      case true => simp at g1; omega
      refine kAutoB ?_
      cases g2 : (kd == 2)
      case true => simp at g2; omega
      refine kAutoB ?_
      cases g3 : (kd == 3)
      case true => simp at g3; omega
      refine kAutoB ?_
      cases g4 : (kd == 4)
      case true => simp at g4; omega
      refine kAutoB ?_
      cases g5 : (kd == 5)
      case true => simp at g5; omega
      refine kAutoB ?_
      have hw : ∀ _ : Nat, evalE ρ α (.mk kd num nm [a, b]) = (match evalE ρ α a with | .error e => .error e | .ok x => match evalE ρ α b with | .error e => .error e | .ok y => if (applyI kd x y).2 = 0 then .ok (applyI kd x y).1 else .error (applyI kd x y).2) := by
        intro _
        rw [evalE, evalOp, if_neg (by omega), if_neg (by omega), if_neg (by omega), if_neg (by omega)]
        rfl
      rw [hw 0]
      (refine CJ.draws mixed 6 [rcel b2 _ _, rcel b3 _ _] (by exact kGives) (dom_of (by kernel_rfl)) ?_)
      ((first | refine kAjB 0 ?_ | refine kAjS 0 ?_); (first | refine kAjB 1 ?_ | refine kAjS 1 ?_); (first | refine kAjB 2 ?_ | refine kAjS 2 ?_))
      (apply AJ.pur (i := 3); exact rfl; exact rfl; exact rfl; exact rfl; exact rfl; exact rfl; exact rfl; exact rfl; exact rfl; (exact OpP.indexAddrC 0 (by exact kEv) rfl (by simp) o1 (by omega)))
      (apply AJ.pur (i := 4); exact rfl; exact rfl; exact rfl; exact rfl; exact rfl; exact rfl; exact rfl; exact rfl; exact rfl; (apply OpP.loadA; exact kEv; exact HasAt.base hb1; exact hrl1))
      (refine AJ.loud1 (i := 5) (by kernel_rfl) (by kernel_rfl) rfl (by kernel_rfl) (by kernel_rfl) rfl rfl rfl rfl rfl rfl (OpS.callE (by exact kEv) inferInstance (by exact kEvl) hrec1) ?_ ?_)
      · rintro v _ ⟨hv, rfl⟩
        refine ⟨by exact kGives, ?_⟩
        cases hev1 : evalE ρ α a with
        | error e => rw [hev1] at hv; cases hv
        | ok x =>
          rw [hev1] at hv
          injection hv with hv
          subst hv
          (refine AJ.tail (by kernel_rfl) (by kernel_rfl) rfl (by kernel_rfl) (by kernel_rfl) (by kernel_rfl) ?_)
          refine kAutoB ?_
          (refine CJ.draws mixed 14 [rcel b2 _ _, rcel b3 _ _] (by exact kGives) (dom_of (by kernel_rfl)) ?_)
          ((first | refine kAjB 0 ?_ | refine kAjS 0 ?_); (first | refine kAjB 1 ?_ | refine kAjS 1 ?_); (first | refine kAjB 2 ?_ | refine kAjS 2 ?_); (first | refine kAjB 3 ?_ | refine kAjS 3 ?_); (first | refine kAjB 4 ?_ | refine kAjS 4 ?_); (first | refine kAjB 5 ?_ | refine kAjS 5 ?_))
          (apply AJ.pur (i := 6); exact rfl; exact rfl; exact rfl; exact rfl; exact rfl; exact rfl; exact rfl; exact rfl; exact rfl; (exact OpP.indexAddrC 1 (by exact kEv) rfl (by simp) (o1 + 4) (by omega)))
          (apply AJ.pur (i := 7); exact rfl; exact rfl; exact rfl; exact rfl; exact rfl; exact rfl; exact rfl; exact rfl; exact rfl; (apply OpP.loadA; exact kEv; exact HasAt.base hb4; exact hrl4))
          (refine AJ.loud1 (i := 8) (by kernel_rfl) (by kernel_rfl) rfl (by kernel_rfl) (by kernel_rfl) rfl rfl rfl rfl rfl rfl (OpS.callE (by exact kEv) inferInstance (by exact kEvl) hrec4) ?_ ?_)
          · rintro v _ ⟨hv, rfl⟩
            refine ⟨by exact kGives, ?_⟩
            cases hev4 : evalE ρ α b with
            | error e => rw [hev4] at hv; cases hv
            | ok y =>
              rw [hev4] at hv
              injection hv with hv
              subst hv
              (refine AJ.loud1 (i := 9) (by kernel_rfl) (by kernel_rfl) rfl (by kernel_rfl) (by kernel_rfl) rfl rfl rfl rfl rfl rfl (OpS.callIs (by exact kEv) inferInstance (by exact kEvl) (apply_spec w0 kd x y)) ?_ ?_)
              · rintro _ _ ⟨rfl, rfl⟩
                refine ⟨by exact kGives, ?_⟩
                ((first | refine kAjB 10 ?_ | refine kAjS 10 ?_); (first | refine kAjB 11 ?_ | refine kAjS 11 ?_); (first | refine kAjB 12 ?_ | refine kAjS 12 ?_); (first | refine kAjB 13 ?_ | refine kAjS 13 ?_))
                (refine AJ.tail (by kernel_rfl) (by kernel_rfl) rfl (by kernel_rfl) (by kernel_rfl) (by kernel_rfl) ?_)
                refine kAutoB ?_
                (apply RL.callE; exact kEv; exact inferInstance; exact kEvl; exact (fail_spec w0 (applyI kd x y).2); exact rfl)
                · intro v hv
                  refine kAutoB ?_
                  refine XJ.ret1 rfl rfl [] (by exact kGives) ⟨?_, rfl⟩
                  by_cases h0 : (applyI kd x y).2 = 0
                  · simp only [h0, if_true]; rfl
                  · rw [if_neg h0] at hv; cases hv
                · intro c hc
                  refine kAutoB ?_
                  refine XJ.panics [] (by exact kGives) ⟨?_, rfl⟩
                  by_cases h0 : (applyI kd x y).2 = 0
                  · rw [if_pos h0] at hc; cases hc
                  · rw [if_neg h0] at hc; simp only [h0, if_false]; exact hc
              · rintro _ _ h; exact h.elim
          · rintro c _ ⟨hc, rfl⟩
            refine kAutoB ?_
            refine XJ.panics [] (by exact kGives) ⟨?_, rfl⟩
            simp only
            rw [← hc]
            cases hev4 : evalE ρ α b with
            | error e => rfl
            | ok y => rw [hev4] at hc; cases hc
      · rintro c _ ⟨hc, rfl⟩
        refine kAutoB ?_
        refine XJ.panics [] (by exact kGives) ⟨?_, rfl⟩
        rw [← hc]
        cases hev1 : evalE ρ α a with
        | error e => rfl
        | ok x => rw [hev1] at hc; cases hc
end Go.Proofs.YtgmapenlgammfaaGreatDoor
