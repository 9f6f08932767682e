import Derived.Test.YtgmapenlgammfaaGreatDoorGC
import Derived.Recover
set_option linter.all false
/- The package interp: the walk through eval. -/
namespace Go.Proofs.YtgmapenlgammfaaGreatDoor
open Go

theorem eval_spec (w0 : World) (rv ra : Nat) (ρ : ByteArray → Option Int) (α : ByteArray → Option (List Int)) (hE : EnvB w0 rv ra ρ α) : ∀ (m : Nat) (n : Node) (cs : List Value), n.size ≤ m → n.size < 4611686018427387904 → NodeR w0 n cs → isB n 1 = true →
    Spec Tryz.prog w0 70 #[.agg #[.map (some rv), .map (some ra)], .agg cs.toArray] [] (IsE (resE (evalE ρ α n))) := by
  intro m
  induction m with
  | zero => intro n cs h; have := n.size_pos; omega
  | succ m ih =>
    intro n cs hm hs hR hB
    obtain ⟨A, cap, rfl, hcap, hN⟩ := hR.kids
    obtain ⟨kd, num, nm, kids⟩ := n
    simp only [Node.kind, Node.num, Node.name, Node.kids] at *
    obtain ⟨αv, hα, hα0, hα1⟩ := hE.arrs
    have hvars := hE.vars
    refine Spec.enter (args := [_, _]) Tryz.func70 rfl rfl rfl (fun F => ?_)
    refine kAutoB ?_
    (apply RL.boxR; exact kEv; exact rfl; intro b2)
    (apply RL.boxR; exact kEv; exact rfl; intro b3)
    refine kAutoB ?_
    rcases expr_cases hB with ⟨rfl, rfl⟩ | ⟨rfl, rfl⟩ | ⟨rfl, a, rfl, ha⟩ | ⟨hk, a, rfl, ha⟩ | ⟨hk, a, b, rfl, ha, hb⟩
    · refine kAutoB ?_
      exact XJ.ret1 rfl rfl [] (by exact kGives) ⟨rfl, rfl⟩
    · refine kAutoB ?_
      cases hv : ρ nm with
      | none =>
        apply RL.pur; (apply OpP.lookupNone; exact kEv; exact kEv; exact hvars.has; exact (by simp [hv])); exact rfl
        refine kAutoB ?_
        (apply RL.callE; exact kEv; exact inferInstance; exact kEvl; exact (fail_spec w0 6); exact rfl)
        · intro v hv
          cases hv
        · intro c hc
          simp at hc
          subst hc
          refine kAutoB ?_
          exact XJ.panics [] (by exact kGives) ⟨by rw [evalE, evalOp, hv]; rfl, rfl⟩
      | some v =>
        apply RL.pur; (apply OpP.lookupSome; exact kEv; exact kEv; exact hvars.has; exact (by rw [hv]; rfl)); exact rfl
        refine kAutoB ?_
        exact XJ.ret1 rfl rfl [] (by exact kGives) ⟨by rw [evalE, evalOp, hv]; rfl, rfl⟩
    · obtain ⟨b, o, r, e1, hb, hrl, hr⟩ := hN.at_ 0 (by simp)
      subst e1
      simp only [List.getElem_cons_zero, Nat.zero_mul, Nat.add_zero] at hb hr
      have hsz : a.size < (Node.mk 3 num nm [a]).size := Node.size_kid (n := .mk 3 num nm [a]) (by simp [Node.kids])
      have hrec := ih a r (by omega) (by omega) hr ha
      have hA := array_spec w0 rv ra αv hα nm
      refine kAutoB ?_
      cases hαn : α nm with
      | none =>
        rw [hα0 nm hαn] at hA
        (apply RL.callE; exact kEv; exact inferInstance; exact kEvl; exact hA; exact rfl)
        · intro v hv
          cases hv
        · intro c hc
          simp at hc
          subst hc
          refine kAutoB ?_
          exact XJ.panics [] (by exact kGives) ⟨by rw [evalE, evalOp, hαn]; rfl, rfl⟩
      | some l =>
        obtain ⟨u, hu, A1, c1, rfl, hc1, hrl1⟩ := hα1 nm l hαn
        rw [hu] at hA
        (apply RL.callE; exact kEv; exact inferInstance; exact kEvl; exact hA; exact rfl)
        · intro v hv
          injection hv with hv
          subst hv
          refine kAutoB ?_
          (refine CJ.draws mixed 11 [rcel b2 _ _, rcel b3 _ _] (by exact kGives) (dom_of (by kernel_rfl)) ?_)
          ((first | refine kAjB 0 ?_ | refine kAjS 0 ?_); (first | refine kAjB 1 ?_ | refine kAjS 1 ?_); (first | refine kAjB 2 ?_ | refine kAjS 2 ?_); (first | refine kAjB 3 ?_ | refine kAjS 3 ?_))
          (apply AJ.pur (i := 4); exact rfl; exact rfl; exact rfl; exact rfl; exact rfl; exact rfl; exact rfl; exact rfl; exact rfl; (exact OpP.indexAddrC 0 (by exact kEv) rfl (by simp) o (by omega)))
          (apply AJ.pur (i := 5); exact rfl; exact rfl; exact rfl; exact rfl; exact rfl; exact rfl; exact rfl; exact rfl; exact rfl; (apply OpP.loadA; exact kEv; exact HasAt.base hb; exact hrl))
          refine kAjB 7 ?_
          (refine AJ.loud1 (i := 6) (by kernel_rfl) (by kernel_rfl) rfl (by kernel_rfl) (by kernel_rfl) rfl rfl rfl rfl rfl rfl (OpS.callE (by exact kEv) inferInstance (by exact kEvl) hrec) ?_ ?_)
          · rintro v _ ⟨hv, rfl⟩
            refine ⟨by exact kGives, ?_⟩
            cases hev : evalE ρ α a with
            | error e => rw [hev] at hv; cases hv
            | ok i =>
              rw [hev] at hv
              injection hv with hv
              subst hv
              have hri : I32 i := evalE_range hE.r1 hE.r2 a i hev
              (refine AJ.loud1 (i := 8) (by kernel_rfl) (by kernel_rfl) rfl (by kernel_rfl) (by kernel_rfl) rfl rfl rfl rfl rfl rfl (OpS.callE (by exact kEv) inferInstance (by exact kEvl) (index_spec16 w0 i A1 l.length c1)) ?_ ?_)
              · rintro v _ ⟨hv, rfl⟩
                refine ⟨by exact kGives, ?_⟩
                cases hi : idxB i l.length with
                | false => rw [hi] at hv; cases hv
                | true =>
                  rw [hi, if_pos rfl] at hv
                  injection hv with hv
                  subst hv
                  have hw : IntKind.i64.wrap i = ((i.toNat : Nat) : Int) := by
                    unfold I32 at hri
                    unfold idxB at hi
                    simp at hi
                    simp only [IntKind.wrap, IntKind.signed, IntKind.bits]
                    simp
                    omega
                  have hlt : i.toNat < l.length := by
                    unfold idxB at hi
                    simp only [Bool.and_eq_true, Bool.not_eq_true', decide_eq_false_iff_not] at hi
                    omega
                  rw [hw]
                  obtain ⟨b5, o5, e5, _, hb5⟩ := hrl1.at_ i.toNat (by simpa using hlt)
                  subst e5
                  simp only [List.getElem_map] at hb5
                  (apply AJ.pur (i := 9); exact rfl; exact rfl; exact rfl; exact rfl; exact rfl; exact rfl; exact rfl; exact rfl; exact rfl; (apply OpP.indexAddr; exact kEv; exact kEv; exact hlt))
                  (apply AJ.pur (i := 10); exact rfl; exact rfl; exact rfl; exact rfl; exact rfl; exact rfl; exact rfl; exact rfl; exact rfl; (apply OpP.load; exact kEv; exact HasAt.base hb5))
                  (refine AJ.tail (by kernel_rfl) (by kernel_rfl) rfl (by kernel_rfl) (by kernel_rfl) (by kernel_rfl) ?_)
                  refine kAutoB ?_
                  refine XJ.ret1 rfl rfl [] (by exact kGives) ⟨?_, rfl⟩
                  have e : evalE ρ α (.mk 3 num nm [a]) = .ok l[i.toNat] := by
                    simp only [evalE, evalOp, hαn, evalL, List.getD_cons_zero, hev, hi, hw, Int.toNat_natCast]
                    simp [List.getD_eq_getElem?_getD, hlt]
                  rw [e]
                  rfl
              · rintro c _ ⟨hc, rfl⟩
                refine kAutoB ?_
                refine XJ.panics [] (by exact kGives) ⟨?_, rfl⟩
                cases hi : idxB i l.length with
                | true => rw [hi, if_pos rfl] at hc; cases hc
                | false =>
                  rw [hi] at hc
                  have e : evalE ρ α (.mk 3 num nm [a]) = .error 11 := by
                    simp only [evalE, evalOp, hαn, evalL, List.getD_cons_zero, hev, hi]
                    rfl
                  rw [e]
                  exact hc
          · rintro c _ ⟨hc, rfl⟩
            refine kAutoB ?_
            refine XJ.panics [] (by exact kGives) ⟨?_, rfl⟩
            rw [evalE, evalOp, hαn, ← hc]
            cases hev : evalE ρ α a with
            | error e => simp [evalL, hev, resE]
            | ok i => rw [hev] at hc; cases hc
        · intro c hc
          cases hc
    · obtain ⟨b, o, r, e1, hb, hrl, hr⟩ := hN.at_ 0 (by simp)
      subst e1
      simp only [List.getElem_cons_zero, Nat.zero_mul, Nat.add_zero] at hb hr
      have hsz : a.size < (Node.mk kd num nm [a]).size := Node.size_kid (n := .mk kd num nm [a]) (by simp [Node.kids])
      have hrec := ih a r (by omega) (by omega) hr ha
      have hne : ¬ kd = 1 ∧ ¬ kd = 2 ∧ ¬ kd = 3 := by omega
      have key : ∀ (hev : ∃ i, evalE ρ α a = .ok i), True := fun _ => trivial
      cases g1 : (kd == 1)
      case true => simp at g1; omega
      refine kAutoB ?_
      cases g2 : (kd == 2)
      case true => simp at g2; omega
      refine kAutoB ?_
      cases g3 : (kd == 3)
      case true => simp at g3; omega
      refine kAutoB ?_
      have hw : ∀ _ : Nat, evalE ρ α (.mk kd num nm [a]) = (match evalE ρ α a with | .error e => .error e | .ok x => if (unaryI kd x).2 = 0 then .ok (unaryI kd x).1 else .error (unaryI kd x).2) := by
        intro _
        rw [evalE, evalOp, if_neg hne.1, if_neg hne.2.1, if_neg hne.2.2, if_pos hk]
        rfl
      rw [hw 0]
      rcases hk with rfl | rfl
      · refine kAutoB ?_
        (refine CJ.draws mixed 13 [rcel b2 _ _, rcel b3 _ _] (by exact kGives) (dom_of (by kernel_rfl)) ?_)
        ((first | refine kAjB 0 ?_ | refine kAjS 0 ?_); (first | refine kAjB 1 ?_ | refine kAjS 1 ?_); (first | refine kAjB 2 ?_ | refine kAjS 2 ?_); (first | refine kAjB 3 ?_ | refine kAjS 3 ?_); (first | refine kAjB 4 ?_ | refine kAjS 4 ?_))
        (apply AJ.pur (i := 5); exact rfl; exact rfl; exact rfl; exact rfl; exact rfl; exact rfl; exact rfl; exact rfl; exact rfl; (exact OpP.indexAddrC 0 (by exact kEv) rfl (by simp) o (by omega)))
        (apply AJ.pur (i := 6); exact rfl; exact rfl; exact rfl; exact rfl; exact rfl; exact rfl; exact rfl; exact rfl; exact rfl; (apply OpP.loadA; exact kEv; exact HasAt.base hb; exact hrl))
        (refine AJ.loud1 (i := 7) (by kernel_rfl) (by kernel_rfl) rfl (by kernel_rfl) (by kernel_rfl) rfl rfl rfl rfl rfl rfl (OpS.callE (by exact kEv) inferInstance (by exact kEvl) hrec) ?_ ?_)
        · rintro v _ ⟨hv, rfl⟩
          refine ⟨by exact kGives, ?_⟩
          cases hev : evalE ρ α a with
          | error e => rw [hev] at hv; cases hv
          | ok i =>
            rw [hev] at hv
            injection hv with hv
            subst hv
            (refine AJ.loud1 (i := 8) (by kernel_rfl) (by kernel_rfl) rfl (by kernel_rfl) (by kernel_rfl) rfl rfl rfl rfl rfl rfl (OpS.callIs (by exact kEv) inferInstance (by exact kEvl) (unary_spec w0 4 i)) ?_ ?_)
            · rintro _ _ ⟨rfl, rfl⟩
              refine ⟨by exact kGives, ?_⟩
              ((first | refine kAjB 9 ?_ | refine kAjS 9 ?_); (first | refine kAjB 10 ?_ | refine kAjS 10 ?_); (first | refine kAjB 11 ?_ | refine kAjS 11 ?_); (first | refine kAjB 12 ?_ | refine kAjS 12 ?_))
              (refine AJ.tail (by kernel_rfl) (by kernel_rfl) rfl (by kernel_rfl) (by kernel_rfl) (by kernel_rfl) ?_)
              refine kAutoB ?_
              (apply RL.callE; exact kEv; exact inferInstance; exact kEvl; exact (fail_spec w0 (unaryI 4 i).2); exact rfl)
              · intro v hv
                refine kAutoB ?_
                refine XJ.ret1 rfl rfl [] (by exact kGives) ⟨?_, rfl⟩
                by_cases h0 : (unaryI 4 i).2 = 0
                · simp only [h0, if_true]; rfl
                · rw [if_neg h0] at hv; cases hv
              · intro c hc
                refine kAutoB ?_
                refine XJ.panics [] (by exact kGives) ⟨?_, rfl⟩
                by_cases h0 : (unaryI 4 i).2 = 0
                · rw [if_pos h0] at hc; cases hc
                · rw [if_neg h0] at hc; simp only [h0, if_false]; exact hc
            · rintro _ _ h; exact h.elim
        · rintro c _ ⟨hc, rfl⟩
          refine kAutoB ?_
          refine XJ.panics [] (by exact kGives) ⟨?_, rfl⟩
          rw [← hc]
          cases hev : evalE ρ α a with
          | error e => rfl
          | ok i => rw [hev] at hc; cases hc
      · refine kAutoB ?_
        (refine CJ.draws mixed 13 [rcel b2 _ _, rcel b3 _ _] (by exact kGives) (dom_of (by kernel_rfl)) ?_)
        ((first | refine kAjB 0 ?_ | refine kAjS 0 ?_); (first | refine kAjB 1 ?_ | refine kAjS 1 ?_); (first | refine kAjB 2 ?_ | refine kAjS 2 ?_); (first | refine kAjB 3 ?_ | refine kAjS 3 ?_); (first | refine kAjB 4 ?_ | refine kAjS 4 ?_))
        (apply AJ.pur (i := 5); exact rfl; exact rfl; exact rfl; exact rfl; exact rfl; exact rfl; exact rfl; exact rfl; exact rfl; (exact OpP.indexAddrC 0 (by exact kEv) rfl (by simp) o (by omega)))
        (apply AJ.pur (i := 6); exact rfl; exact rfl; exact rfl; exact rfl; exact rfl; exact rfl; exact rfl; exact rfl; exact rfl; (apply OpP.loadA; exact kEv; exact HasAt.base hb; exact hrl))
        (refine AJ.loud1 (i := 7) (by kernel_rfl) (by kernel_rfl) rfl (by kernel_rfl) (by kernel_rfl) rfl rfl rfl rfl rfl rfl (OpS.callE (by exact kEv) inferInstance (by exact kEvl) hrec) ?_ ?_)
        · rintro v _ ⟨hv, rfl⟩
          refine ⟨by exact kGives, ?_⟩
          cases hev : evalE ρ α a with
          | error e => rw [hev] at hv; cases hv
          | ok i =>
            rw [hev] at hv
            injection hv with hv
            subst hv
            (refine AJ.loud1 (i := 8) (by kernel_rfl) (by kernel_rfl) rfl (by kernel_rfl) (by kernel_rfl) rfl rfl rfl rfl rfl rfl (OpS.callIs (by exact kEv) inferInstance (by exact kEvl) (unary_spec w0 5 i)) ?_ ?_)
            · rintro _ _ ⟨rfl, rfl⟩
              refine ⟨by exact kGives, ?_⟩
              ((first | refine kAjB 9 ?_ | refine kAjS 9 ?_); (first | refine kAjB 10 ?_ | refine kAjS 10 ?_); (first | refine kAjB 11 ?_ | refine kAjS 11 ?_); (first | refine kAjB 12 ?_ | refine kAjS 12 ?_))
              (refine AJ.tail (by kernel_rfl) (by kernel_rfl) rfl (by kernel_rfl) (by kernel_rfl) (by kernel_rfl) ?_)
              refine kAutoB ?_
              (apply RL.callE; exact kEv; exact inferInstance; exact kEvl; exact (fail_spec w0 (unaryI 5 i).2); exact rfl)
              · intro v hv
                refine kAutoB ?_
                refine XJ.ret1 rfl rfl [] (by exact kGives) ⟨?_, rfl⟩
                by_cases h0 : (unaryI 5 i).2 = 0
                · simp only [h0, if_true]; rfl
                · rw [if_neg h0] at hv; cases hv
              · intro c hc
                refine kAutoB ?_
                refine XJ.panics [] (by exact kGives) ⟨?_, rfl⟩
                by_cases h0 : (unaryI 5 i).2 = 0
                · rw [if_pos h0] at hc; cases hc
                · rw [if_neg h0] at hc; simp only [h0, if_false]; exact hc
            · rintro _ _ h; exact h.elim
        · rintro c _ ⟨hc, rfl⟩
          refine kAutoB ?_
          refine XJ.panics [] (by exact kGives) ⟨?_, rfl⟩
          rw [← hc]
          cases hev : evalE ρ α a with
          | error e => rfl
          | ok i => rw [hev] at hc; cases hc
    · obtain ⟨b1, o1, r1, e1, hb1, hrl1, hr1⟩ := hN.at_ 0 (by simp)
      obtain ⟨b4, o4, r4, e4, hb4, hrl4, hr4⟩ := hN.at_ 1 (by simp)
      subst e1
      obtain ⟨rfl, rfl⟩ : b1 = b4 ∧ o1 = o4 := by
        simp only [Option.some.injEq, Addr.mk.injEq, and_true] at e4
        exact e4
      simp only [List.getElem_cons_zero, List.getElem_cons_succ, Nat.zero_mul, Nat.add_zero, Nat.one_mul] at hb1 hb4 hr1 hr4
      have hsz1 : a.size < (Node.mk kd num nm [a, b]).size := Node.size_kid (n := .mk kd num nm [a, b]) (by simp [Node.kids])
      have hsz4 : b.size < (Node.mk kd num nm [a, b]).size := Node.size_kid (n := .mk kd num nm [a, b]) (by simp [Node.kids])
      have hrec1 := ih a r1 (by omega) (by omega) hr1 ha
      have hrec4 := ih b r4 (by omega) (by omega) hr4 hb
      cases g1 : (kd == 1)
      case true => simp at g1; omega
      refine kAutoB ?_
      cases g2 : (kd == 2)
      case true => simp at g2; omega
      refine kAutoB ?_
      cases g3 : (kd == 3)
      case true => simp at g3; omega
      refine kAutoB ?_
      cases g4 : (kd == 4)
      case true => simp at g4; omega
      refine kAutoB ?_
      cases g5 : (kd == 5)
      case true => simp at g5; omega
      refine kAutoB ?_
      have hw : ∀ _ : Nat, evalE ρ α (.mk kd num nm [a, b]) = (match evalE ρ α a with | .error e => .error e | .ok x => match evalE ρ α b with | .error e => .error e | .ok y => if (applyI kd x y).2 = 0 then .ok (applyI kd x y).1 else .error (applyI kd x y).2) := by
        intro _
        rw [evalE, evalOp, if_neg (by omega), if_neg (by omega), if_neg (by omega), if_neg (by omega)]
        rfl
      rw [hw 0]
      (refine CJ.draws mixed 6 [rcel b2 _ _, rcel b3 _ _] (by exact kGives) (dom_of (by kernel_rfl)) ?_)
      ((first | refine kAjB 0 ?_ | refine kAjS 0 ?_); (first | refine kAjB 1 ?_ | refine kAjS 1 ?_); (first | refine kAjB 2 ?_ | refine kAjS 2 ?_))
      (apply AJ.pur (i := 3); exact rfl; exact rfl; exact rfl; exact rfl; exact rfl; exact rfl; exact rfl; exact rfl; exact rfl; (exact OpP.indexAddrC 0 (by exact kEv) rfl (by simp) o1 (by omega)))
      (apply AJ.pur (i := 4); exact rfl; exact rfl; exact rfl; exact rfl; exact rfl; exact rfl; exact rfl; exact rfl; exact rfl; (apply OpP.loadA; exact kEv; exact HasAt.base hb1; exact hrl1))
      (refine AJ.loud1 (i := 5) (by kernel_rfl) (by kernel_rfl) rfl (by kernel_rfl) (by kernel_rfl) rfl rfl rfl rfl rfl rfl (OpS.callE (by exact kEv) inferInstance (by exact kEvl) hrec1) ?_ ?_)
      · rintro v _ ⟨hv, rfl⟩
        refine ⟨by exact kGives, ?_⟩
        cases hev1 : evalE ρ α a with
        | error e => rw [hev1] at hv; cases hv
        | ok x =>
          rw [hev1] at hv
          injection hv with hv
          subst hv
          (refine AJ.tail (by kernel_rfl) (by kernel_rfl) rfl (by kernel_rfl) (by kernel_rfl) (by kernel_rfl) ?_)
          refine kAutoB ?_
          (refine CJ.draws mixed 14 [rcel b2 _ _, rcel b3 _ _] (by exact kGives) (dom_of (by kernel_rfl)) ?_)
          ((first | refine kAjB 0 ?_ | refine kAjS 0 ?_); (first | refine kAjB 1 ?_ | refine kAjS 1 ?_); (first | refine kAjB 2 ?_ | refine kAjS 2 ?_); (first | refine kAjB 3 ?_ | refine kAjS 3 ?_); (first | refine kAjB 4 ?_ | refine kAjS 4 ?_); (first | refine kAjB 5 ?_ | refine kAjS 5 ?_))
          (apply AJ.pur (i := 6); exact rfl; exact rfl; exact rfl; exact rfl; exact rfl; exact rfl; exact rfl; exact rfl; exact rfl; (exact OpP.indexAddrC 1 (by exact kEv) rfl (by simp) (o1 + 4) (by omega)))
          (apply AJ.pur (i := 7); exact rfl; exact rfl; exact rfl; exact rfl; exact rfl; exact rfl; exact rfl; exact rfl; exact rfl; (apply OpP.loadA; exact kEv; exact HasAt.base hb4; exact hrl4))
          (refine AJ.loud1 (i := 8) (by kernel_rfl) (by kernel_rfl) rfl (by kernel_rfl) (by kernel_rfl) rfl rfl rfl rfl rfl rfl (OpS.callE (by exact kEv) inferInstance (by exact kEvl) hrec4) ?_ ?_)
          · rintro v _ ⟨hv, rfl⟩
            refine ⟨by exact kGives, ?_⟩
            cases hev4 : evalE ρ α b with
            | error e => rw [hev4] at hv; cases hv
            | ok y =>
              rw [hev4] at hv
              injection hv with hv
              subst hv
              (refine AJ.loud1 (i := 9) (by kernel_rfl) (by kernel_rfl) rfl (by kernel_rfl) (by kernel_rfl) rfl rfl rfl rfl rfl rfl (OpS.callIs (by exact kEv) inferInstance (by exact kEvl) (apply_spec w0 kd x y)) ?_ ?_)
              · rintro _ _ ⟨rfl, rfl⟩
                refine ⟨by exact kGives, ?_⟩
                ((first | refine kAjB 10 ?_ | refine kAjS 10 ?_); (first | refine kAjB 11 ?_ | refine kAjS 11 ?_); (first | refine kAjB 12 ?_ | refine kAjS 12 ?_); (first | refine kAjB 13 ?_ | refine kAjS 13 ?_))
                (refine AJ.tail (by kernel_rfl) (by kernel_rfl) rfl (by kernel_rfl) (by kernel_rfl) (by kernel_rfl) ?_)
                refine kAutoB ?_
                (apply RL.callE; exact kEv; exact inferInstance; exact kEvl; exact (fail_spec w0 (applyI kd x y).2); exact rfl)
                · intro v hv
                  refine kAutoB ?_
                  refine XJ.ret1 rfl rfl [] (by exact kGives) ⟨?_, rfl⟩
                  by_cases h0 : (applyI kd x y).2 = 0
                  · simp only [h0, if_true]; rfl
                  · rw [if_neg h0] at hv; cases hv
                · intro c hc
                  refine kAutoB ?_
                  refine XJ.panics [] (by exact kGives) ⟨?_, rfl⟩
                  by_cases h0 : (applyI kd x y).2 = 0
                  · rw [if_pos h0] at hc; cases hc
                  · rw [if_neg h0] at hc; simp only [h0, if_false]; exact hc
              · rintro _ _ h; exact h.elim
          · rintro c _ ⟨hc, rfl⟩
            refine kAutoB ?_
            refine XJ.panics [] (by exact kGives) ⟨?_, rfl⟩
            simp only
            rw [← hc]
            cases hev4 : evalE ρ α b with
            | error e => rfl
            | ok y => rw [hev4] at hc; cases hc
      · rintro c _ ⟨hc, rfl⟩
        refine kAutoB ?_
        refine XJ.panics [] (by exact kGives) ⟨?_, rfl⟩
        rw [← hc]
        cases hev1 : evalE ρ α a with
        | error e => rfl
        | ok x => rw [hev1] at hc; cases hc
end Go.Proofs.YtgmapenlgammfaaGreatDoor

/- What is owned, handed on as the base of a call that only reads; a store into a list that is owned; a new list. -/
namespace Go.Proofs.YtgmapenlgammfaaGreatDoor
open Go Go.RowKit
section
attribute [local semireducible] Takes Gives Ev XJ CJ RL Spec pt ro OpP OpS HasAt HasMap mp rmp row rrow Base
theorem Spec.rebaseE {P : Program} {w0 : World} {f : FuncId} {args : Array Value} {M : List HProp} {r : Except (List PanicEntry) Value}
    (k : ∀ w h, star M h → Sat w0 w h → Spec P w f args [] (IsE r)) : Spec P w0 f args M (Ret (fun v M' => r = .ok v ∧ M' = M) (fun c M' => r = .error c ∧ M' = M)) :=
  (Spec.rebaseR k).mono fun e M' h => by
    cases e with
    | returned v => obtain ⟨N, ⟨h1, h2⟩, h3⟩ := h; subst h2; exact ⟨h1, h3⟩
    | panicked c => obtain ⟨N, ⟨h1, h2⟩, h3⟩ := h; subst h2; exact ⟨h1, h3⟩
    | outgrown => exact h.elim
theorem mp_mapB {w0 w : World} {h : Frag} {M M' : List HProp} {κ : Type} [DecidableEq κ] {enc : κ → Value} {r : Nat} {m : κ → Option Value} (t : Takes M [mp enc r m] M') (mm : star M h) (s : Sat w0 w h) : MapB w enc r m := by
  obtain ⟨h1, h2, l1, l2, dd, ⟨es, clk, a, mi⟩, m2⟩ := t h mm
  exact ⟨es, clk, (s.own r _ (l1 r _ a)).2, mi⟩
theorem row_rows {w0 w : World} {h : Frag} {M M' : List HProp} {E n c : Nat} {A : Option Addr} {xs : List Value} (t : Takes M [row E 1 (.slice A n c) n xs] M') (mm : star M h) (s : Sat w0 w h) : n ≤ c ∧ RowsB w 1 A (xs.map fun u => [u]) := by
  have hc := row_cap t mm
  refine ⟨hc, ?_⟩
  have tt := t h mm
  obtain ⟨h1, h2, l1, l2, dd, ⟨e1, e2, e3⟩, m2⟩ := tt
  intro i r e
  rw [List.getElem?_map] at e
  obtain ⟨v, hv, rfl⟩ := Option.map_eq_some_iff.1 e
  rcases e3 with ⟨e, e'⟩ | ⟨g, cap, cur, e, a, _, _, hc, ht⟩
  · subst e'
    have : xs = [] := List.eq_nil_of_length_eq_zero (by simpa using e1)
    subst this
    simp at hv
  · simp only [Value.slice.injEq, true_and] at e
    obtain ⟨rfl, rfl⟩ := e
    refine ⟨g, 0, rfl, rfl, ?_⟩
    have hb := (s.own _ _ (l1 _ _ a)).2
    intro j u hu
    rcases j with _ | j
    · simp at hu
      subst hu
      have hi : i < n * 1 := by
        rcases Nat.lt_or_ge i (n * 1) with x | x
        · exact x
        · rw [List.getElem?_eq_none (by omega)] at hv; cases hv
      rw [← ht, List.getElem?_take_of_lt hi] at hv
      have := HasAt.heap (o := 0) (vs := cur) hb atAll i v hv
      simpa using this
    · simp at hu
theorem row_len {E n : Nat} {v : Value} {xs : List Value} {M M' : List HProp} {h : Frag} (t : Takes M [row E 1 v n xs] M') (mm : star M h) : xs.length = n := by
  obtain ⟨h1, h2, l1, l2, dd, ⟨e1, e2, e3⟩, m2⟩ := t h mm
  simpa using e1
section
variable {P : Program} {w0 : World} {L : Env} {M : List HProp} {d : Option Tmp} {T : TypeId} {p : String} {af : Array Edge} {g : Option (Nat × Bool)}
/-- A store into a list of one's own. -/
theorem OpS.rowSet {t : TypeId} {x y : Operand} {b i n c : Nat} {E : TypeId} {xs : List Value} {v : Value} {M' : List HProp} [k : Sca P t] (hx : Ev L x (.pointer (some ⟨b, i, none⟩))) (hy : Ev L y v) (hv : v.cells = #[v]) (h1 : v.oneCell' = true) (hm : Takes M [row E 1 (.slice (some ⟨b, 0, none⟩) n c) n xs] M') (ho : i < n) :
    OpS P w0 L M ⟨d, .store t x y, T, p, af, g⟩ (fun _ M'' => M'' = row E 1 (.slice (some ⟨b, 0, none⟩) n c) n (xs.set i v) :: M') noP :=
  fun q a w h s m sa => by
    obtain ⟨f1, f2, l1, l2, dd, ⟨e1, e2, e3⟩, m2⟩ := hm h m
    rcases e3 with ⟨e, _⟩ | ⟨gg, cap, cur, e, ha, hc1, hc2, hc, ht⟩
    · cases e
    simp only [Value.slice.injEq, Option.some.injEq, Addr.mk.injEq, and_true, true_and] at e
    obtain ⟨rfl, rfl⟩ := e
    have hlen : cur.length = c := by simpa using hc
    have hm' : star (cel b E cur :: M') h := ⟨f1, f2, l1, l2, dd, ha, m2⟩
    have hr := run_storeVar_at (P := P) (o := i) (k.sz w) (show v.cells = [v].toArray from hv) rfl (by simpa using h1) (sa.pt hm') (by simp; omega)
    obtain ⟨h', m', s'⟩ := sa.setRow (cs' := setSeg cur [v] i) hm'
    simp only [execOp, hx q a s, hy q a s, Instr.storeAt, Instr.sureAddr, Sem.run_bind, Sem.run_pure, Result.andThen_ok, hr, ResS]
    refine ⟨_, h', rfl, ?_, s'⟩
    obtain ⟨g1, g2, k1, k2, d2, hb, m3⟩ := m'
    have hseg : setSeg cur [v] i = cur.set i v := by
      unfold setSeg
      rw [List.set_eq_take_append_cons_drop, if_pos (by omega)]
      simp
    refine ⟨g1, g2, k1, k2, d2, ⟨by simpa using e1, ?_, .inr ⟨b, c, setSeg cur [v] i, rfl, hb, hc1, hc2, by rw [hseg]; simpa using hc, ?_⟩⟩, m3⟩
    · intro u hu
      rcases List.mem_or_eq_of_mem_set hu with hu | rfl
      · exact e2 u hu
      · exact h1
    · rw [hseg, List.take_set, ht]
/-- A new list of zeros. -/
theorem OpS.makeRow {t : TypeId} {E sz bytes : Nat} {z : Value} {zc : List Value} {x y : Operand} {n : Nat} [k : AppT P t E sz bytes zc] (hx : Ev L x (.int .i64 (n : Int))) (hy : Ev L y (.int .i64 (n : Int))) (h1 : zc = [z]) (hz : z.oneCell' = true) (hs : sz = 1) (hb : bytes * n ≤ 281474976710656) (hn : n ≤ 1000000000) :
    OpS P w0 L M ⟨d, .makeSlice t x y, T, p, af, g⟩ (fun v N => ∃ b, v = .slice (some ⟨b, 0, none⟩) n n ∧ N = row E 1 v n (List.replicate n z) :: M) noP :=
  fun q a w h s m sa => by
    obtain ⟨i, zz, ht, hi, hzz, hsz, hby, hzc, hzl, h0⟩ := k.ex
    subst hs h1
    have hr := run_make (P := P) w t E i zz ht hi hzz .i64 .i64 (n : Int) (n : Int) (by omega) (Int.le_refl _) (by
      rw [hby]
      have : ((bytes * n : Nat) : Int) ≤ 281474976710656 := by omega
      rwa [Int.natCast_mul] at this) (by omega)
    simp only [Int.toNat_natCast] at hr
    have hcells : madeCells zz.cells (n * i.size) = (List.replicate n z).toArray := by
      rw [hzc, hsz, Nat.mul_one]
      unfold madeCells
      apply Array.ext'
      simp only [Array.toList_map, Array.toList_range, List.size_toArray, List.length_singleton, Nat.mod_one]
      apply List.ext_getElem?
      intro j
      simp only [List.getElem?_map, List.getElem?_replicate, List.getElem?_range']
      by_cases hj : j < n
      · simp [hj, List.range_eq_range']
      · simp [hj, List.range_eq_range']
    rw [hcells] at hr
    obtain ⟨h', m', s'⟩ := sa.push m (.cells (List.replicate n z).toArray E (0, 0))
    simp only [execOp, hx q a s, hy q a s, Sem.run_bind, hr, Result.andThen_ok, Sem.run_pure, ResS]
    refine ⟨_, h', ⟨_, rfl, rfl⟩, ?_, s'⟩
    exact row_of_cel (by simp) (by intro u hu; rw [List.mem_replicate] at hu; rw [hu.2]; exact hz) (by simp only [maxLen]; omega) _ h' m'
end
end
theorem RL.rowSet {P : Program} {w0 : World} {n : Nat} {ops : Array Oper} {Q : Exit → Act → World → Prop} {L : Env} {M : List HProp} {l : List Oper} {T : TypeId} {p : String} {af : Array Edge}
    {t : TypeId} {x y : Operand} {b i m c : Nat} {E : TypeId} {xs : List Value} {v : Value} {M' : List HProp} [k : Sca P t] (hx : Ev L x (.pointer (some ⟨b, i, none⟩))) (hy : Ev L y v) (hv : v.cells = #[v]) (h1 : v.oneCell' = true) (hm : Takes M [row E 1 (.slice (some ⟨b, 0, none⟩) m c) m xs] M') (ho : i < m)
    (kk : RL P w0 n ops Q l L (row E 1 (.slice (some ⟨b, 0, none⟩) m c) m (xs.set i v) :: M')) : RL P w0 n ops Q (⟨none, .store t x y, T, p, af, none⟩ :: l) L M :=
  RL.s0 (OpS.rowSet hx hy hv h1 hm ho) (by rintro _ _ rfl; exact kk) (fun _ _ h => h.elim)
theorem RL.makeRow {P : Program} {w0 : World} {q : Nat} {ops : Array Oper} {Q : Exit → Act → World → Prop} {L : Env} {M : List HProp} {l : List Oper} {T : TypeId} {p : String} {af : Array Edge}
    {d : Nat} {t : TypeId} {E sz bytes : Nat} {z : Value} {zc : List Value} {x y : Operand} {n : Nat} [k : AppT P t E sz bytes zc] (hx : Ev L x (.int .i64 (n : Int))) (hy : Ev L y (.int .i64 (n : Int))) (h1 : zc = [z]) (hz : z.oneCell' = true) (hs : sz = 1) (hb : bytes * n ≤ 281474976710656) (hn : n ≤ 1000000000) (hd : Nat.blt d q = true)
    (kk : ∀ b, RL P w0 q ops Q l ((d, .slice (some ⟨b, 0, none⟩) n n) :: L) (row E 1 (.slice (some ⟨b, 0, none⟩) n n) n (List.replicate n z) :: M)) : RL P w0 q ops Q (⟨some d, .makeSlice t x y, T, p, af, none⟩ :: l) L M :=
  RL.s (OpS.makeRow hx hy h1 hz hs hb hn) hd (by rintro _ _ ⟨b, rfl, rfl⟩; exact kk b) (fun _ _ h => h.elim)
section
attribute [local semireducible] Takes Gives
theorem Takes.appR {A Z Z' : List HProp} (N : List HProp) (k : Takes Z A Z') : Takes (N ++ Z) A (N ++ Z') := fun h s => by
  have s1 : star (Z ++ N) h := star.perm List.perm_append_comm s
  obtain ⟨h1, h2, l1, l2, d, z, n⟩ := s1.split
  have := star.join l1 l2 d (k _ z) n
  refine star.perm ?_ this
  rw [List.append_assoc]
  exact List.Perm.append_left A List.perm_append_comm
theorem Takes.assoc {A X F : List HProp} : Takes (A ++ (X ++ F)) (A ++ X) F := fun h s => by rwa [List.append_assoc]
end
section
attribute [local semireducible] Gives
theorem Gives.front2 {J : List HProp} {a b : HProp} {F : List HProp} : Gives (J ++ (a :: b :: F)) (a :: b :: (J ++ F)) := fun h m => by
  refine star.perm ?_ m
  exact List.perm_middle.trans (List.perm_middle.cons _)
theorem Gives.front2' {J : List HProp} {a b : HProp} {F : List HProp} : Gives (a :: b :: (J ++ F)) (J ++ ([a, b] ++ F)) := fun h m => by
  refine star.perm ?_ m
  exact (List.perm_middle.trans (List.perm_middle.cons _)).symm
theorem Gives.front2r {J : List HProp} {a b : HProp} {F : List HProp} : Gives ((J ++ [a, b]) ++ F) (a :: b :: (J ++ F)) := fun h m => by
  rw [List.append_assoc] at m
  refine star.perm ?_ m
  exact List.perm_middle.trans (List.perm_middle.cons _)
theorem Gives.drop2 {a b : HProp} {M : List HProp} : Gives (a :: b :: M) M := Gives.drop (Gives.drop (Gives.refl _))
end
section
attribute [local semireducible] Takes
theorem Takes.two0 {a b : HProp} {A F : List HProp} : Takes (a :: b :: (A ++ F)) (A ++ []) (a :: b :: F) := by rw [List.append_nil]; exact Takes.there1 (Takes.there1 (Takes.app _ _))
theorem Takes.two' {a b : HProp} {A F : List HProp} : Takes (a :: b :: (A ++ F)) (A ++ [a, b]) F := fun h m => by
  rw [List.append_assoc]
  refine star.perm ?_ m
  exact (List.perm_middle.trans (List.perm_middle.cons _)).symm
theorem Takes.two {a b : HProp} {A F : List HProp} : Takes (a :: b :: (A ++ F)) A (a :: b :: F) := Takes.there1 (Takes.there1 (Takes.app _ _))
end
section
attribute [local semireducible] Gives
theorem Gives.swapApp {A B F : List HProp} : Gives (A ++ (B ++ F)) ((B ++ A) ++ F) := fun h m => by
  refine star.perm ?_ m
  rw [← List.append_assoc]
  exact List.Perm.append_right F List.perm_append_comm
end
end Go.Proofs.YtgmapenlgammfaaGreatDoor

/- Functions with a deferred call; results that stand in cells. Plain lemmas, no statement of the program. -/
namespace Go.Proofs.YtgmapenlgammfaaGreatDoor
open Go Go.RowKit
attribute [local semireducible] Takes Gives Ev XJ CJ RL Spec pt ro OpP OpS HasAt
section
variable {P : Program} {w0 : World} {n : Nat} {L : Env} {M : List HProp} {fn : Func} {R : Ending → List HProp → Prop} {F : List HProp}
theorem results_cell {fn : Func} {t : Tmp} {T : TypeId} (h : fn.results = #[.cell t T]) (tmps : Array Value) {b o : Nat} {v : Value} {w : World} (ht : tmps.getD t undef = .pointer (some ⟨b, o, none⟩)) (hv : (loadVar T ⟨b, o, none⟩).run P w = .ok v w) :
    (results fn tmps).run P w = .ok v w := by
  simp only [results, h, List.mapM_toArray, List.mapM_cons, List.mapM_nil, ht, asAddr, Sem.run_bind, Sem.run_pure, Result.andThen_ok, hv]
  simp [hv]
theorem results_cell_tmp {fn : Func} {t u : Tmp} {T : TypeId} (h : fn.results = #[.cell t T, .tmp u]) (tmps : Array Value) {b o : Nat} {v : Value} {w : World} (ht : tmps.getD t undef = .pointer (some ⟨b, o, none⟩)) (hv : (loadVar T ⟨b, o, none⟩).run P w = .ok v w) :
    (results fn tmps).run P w = .ok (.tuple #[v, tmps.getD u undef]) w := by
  simp only [results, h, List.mapM_toArray, List.mapM_cons, List.mapM_nil, ht, asAddr, Sem.run_bind, Sem.run_pure, Result.andThen_ok, hv]
  simp [hv]
theorem results_tmp_cell {fn : Func} {t u : Tmp} {T : TypeId} (h : fn.results = #[.tmp u, .cell t T]) (tmps : Array Value) {b o : Nat} {v : Value} {w : World} (ht : tmps.getD t undef = .pointer (some ⟨b, o, none⟩)) (hv : (loadVar T ⟨b, o, none⟩).run P w = .ok v w) :
    (results fn tmps).run P w = .ok (.tuple #[tmps.getD u undef, v]) w := by
  simp only [results, h, List.mapM_toArray, List.mapM_cons, List.mapM_nil, ht, asAddr, Sem.run_bind, Sem.run_pure, Result.andThen_ok, hv]
  simp [hv]
/-- The result is an aggregate in cells. -/
theorem XJ.retC {t T q b : Nat} {vs : List Value} [k : AggT P T q] (hr : fn.results = #[.cell t T]) (ht : L.get t = some (.pointer (some ⟨b, 0, none⟩))) (hm : HasAt w0 M b 0 vs) (hn : vs.length = q) (M' : List HProp) (hM : Gives M (M' ++ F)) (hR : R (.returned (.agg vs.toArray)) M') : XJ w0 n .ret (endOf P w0 fn R F) L M :=
  fun a w h s m sa => ⟨s.df, .agg vs.toArray, results_cell hr _ (by rw [Act.getD_eval, Ev.tmp ht n a s]) (run_loadVar_agg hn (hm w h m sa)), M', h, hR, hM h m, sa⟩
theorem XJ.retCT {t u T q b : Nat} {v : Value} {vs : List Value} [k : AggT P T q] (hr : fn.results = #[.cell t T, .tmp u]) (ht : L.get t = some (.pointer (some ⟨b, 0, none⟩))) (hu : L.get u = some v) (hm : HasAt w0 M b 0 vs) (hn : vs.length = q) (M' : List HProp) (hM : Gives M (M' ++ F)) (hR : R (.returned (.tuple #[.agg vs.toArray, v])) M') : XJ w0 n .ret (endOf P w0 fn R F) L M :=
  fun a w h s m sa => ⟨s.df, .tuple #[.agg vs.toArray, v], by rw [results_cell_tmp hr _ (by rw [Act.getD_eval, Ev.tmp ht n a s]) (run_loadVar_agg hn (hm w h m sa)), Act.getD_eval, Ev.tmp hu n a s], M', h, hR, hM h m, sa⟩
theorem XJ.retTC {t u T b : Nat} {v x : Value} [k : Sca P T] (hr : fn.results = #[.tmp u, .cell t T]) (ht : L.get t = some (.pointer (some ⟨b, 0, none⟩))) (hu : L.get u = some v) (hm : HasAt w0 M b 0 [x]) (M' : List HProp) (hM : Gives M (M' ++ F)) (hR : R (.returned (.tuple #[v, x])) M') : XJ w0 n .ret (endOf P w0 fn R F) L M :=
  fun a w h s m sa => ⟨s.df, .tuple #[v, x], by rw [results_tmp_cell hr _ (by rw [Act.getD_eval, Ev.tmp ht n a s]) (run_loadVar_sca (by simpa using hm w h m sa 0 x rfl)), Act.getD_eval, Ev.tmp hu n a s], M', h, hR, hM h m, sa⟩

/-! ### deferred calls -/
def withD (D : List Deferred) (a : Act) : Act := { a with defers := D }
abbrev endD (P : Program) (w0 : World) (fn : Func) (R : Ending → List HProp → Prop) (F : List HProp) : Exit → Act → World → Prop :=
  bodyPostD P fn fun e w' => ∃ M' h', R e M' ∧ star (M' ++ F) h' ∧ Sat w0 w' h'
theorem Spec.enterD {f : FuncId} {fn : Func} {c : Code} {args : List Value} {pre : List HProp} {R : Ending → List HProp → Prop} {n : Nat}
    (hf : P.funcs[f]? = some fn) (hb : fn.body = some c) (hn : fn.ntmps = n) (hle : Nat.ble args.length n = true)
    (k : ∀ F, CJ P w0 n c (endD P w0 fn R F) (argsEnv 0 args) (pre ++ F)) : Spec P w0 f args.toArray pre R := by
  intro F w h m t
  refine calls_of_wp_defers hf hb ?_
  have hle' : args.length ≤ n := by simpa [Nat.ble_eq] using hle
  have hst := St.enter args (n - args.length) (argsEnv 0 args) (fun t v e => by have := argsEnv_get args 0 t v e; simpa using this.2)
  rw [show args.length + (n - args.length) = n by omega] at hst
  have : args.toArray.size = args.length := by simp
  rw [hn, this]
  exact k F _ w h hst m t
theorem XJ.early (k : XJ w0 n .ret (endOf P w0 fn R F) L M) : XJ w0 n .ret (endD P w0 fn R F) L M := fun a w h s m t => by
  obtain ⟨hd, v, h1, h2⟩ := k a w h s m t
  show Leaves P fn a.tmps _ a.defers .returning w
  rw [hd]
  exact ⟨v, h1, h2⟩
def XJD (w0 : World) (n : Nat) (D : List Deferred) (e : Exit) (Q : Exit → Act → World → Prop) (L : Env) (M : List HProp) : Prop :=
  ∀ a w h, St n L a → star M h → Sat w0 w h → Q e (withD D a) w
def CJD (P : Program) (w0 : World) (n : Nat) (D : List Deferred) (c : Code) (Q : Exit → Act → World → Prop) (L : Env) (M : List HProp) : Prop :=
  ∀ a w h, St n L a → star M h → Sat w0 w h → c.wp P Q (withD D a) w
def RLD (P : Program) (w0 : World) (n : Nat) (D : List Deferred) (ops : Array Oper) (Q : Exit → Act → World → Prop) (l : List Oper) (L : Env) (M : List HProp) : Prop :=
  ∀ a w h, St n L a → star M h → Sat w0 w h → wpList P ops Q l (withD D a) w
variable {ops : Array Oper} {Q : Exit → Act → World → Prop} {l : List Oper} {op : Op} {T : TypeId} {p : String} {af : Array Edge} {D : List Deferred}
theorem XJD.gives {e : Exit} {M' : List HProp} (g : Gives M M') (k : XJD w0 n D e Q L M') : XJD w0 n D e Q L M := fun a w h s m t => k a w h s (g h m) t
theorem RLD.gives {M' : List HProp} (g : Gives M M') (k : RLD P w0 n D ops Q l L M') : RLD P w0 n D ops Q l L M := fun a w h s m t => k a w h s (g h m) t
theorem CJD.gives {c : Code} {M' : List HProp} (g : Gives M M') (k : CJD P w0 n D c Q L M') : CJD P w0 n D c Q L M := fun a w h s m t => k a w h s (g h m) t
theorem CJD.seq {x y : Code} (k : CJD P w0 n D x (Exit.then (fun a w => y.wp P Q a w) Q) L M) : CJD P w0 n D (.seq x y) Q L M := fun a w h s m t => wp_seq (k a w h s m t)
theorem CJD.ret (k : XJD w0 n D .ret Q L M) : CJD P w0 n D .ret Q L M := fun a w h s m t => wp_ret (k a w h s m t)
theorem CJD.region {i : Nat} {l : List Oper} (k : RLD P w0 n D l.toArray Q l L M) : CJD P w0 n D (.region i l.toArray false) Q L M := fun a w h s m t => wp_region_lit (k a w h s m t)
theorem RLD.nil (k : XJD w0 n D .normal Q L M) : RLD P w0 n D ops Q [] L M := k
theorem XJD.next {y : Code} {Q' : Exit → Act → World → Prop} (k : CJD P w0 n D y Q L M) : XJD w0 n D .normal (Exit.then (fun a w => y.wp P Q a w) Q') L M := k
theorem XJD.then_ret {K : Act → World → Prop} (k : XJD w0 n D .ret Q L M) : XJD w0 n D .ret (Exit.then K Q) L M := k
theorem XJD.then_panic {K : Act → World → Prop} {c : List PanicEntry} (k : XJD w0 n D (.panic c) Q L M) : XJD w0 n D (.panic c) (Exit.then K Q) L M := k
theorem RLD.pur {d : Nat} {v : Value} (hp : OpP P w0 L M ⟨some d, op, T, p, af, none⟩ v) (hd : Nat.blt d n = true) (k : RLD P w0 n D ops Q l ((d, v) :: L) M) : RLD P w0 n D ops Q (⟨some d, op, T, p, af, none⟩ :: l) L M :=
  fun a w h s m sa => wpList_plain rfl fun K hK => by
    have hr : (execOp (withD D a).eval ⟨some d, op, T, p, af, none⟩).run P w = _ := hp n a w h s m sa
    simp only [Oper.wp, hr, Oper.upon]
    exact hK _ _ (k _ w h (s.put v hd) m sa)
theorem RLD.s {d : Nat} {K : Value → List HProp → Prop} {KP : List PanicEntry → List HProp → Prop} (hp : OpS P w0 L M ⟨some d, op, T, p, af, none⟩ K KP) (hd : Nat.blt d n = true)
    (k : ∀ v M', K v M' → RLD P w0 n D ops Q l ((d, v) :: L) M') (kp : ∀ c M', KP c M' → XJD w0 n D (.panic c) Q L M') : RLD P w0 n D ops Q (⟨some d, op, T, p, af, none⟩ :: l) L M :=
  fun a w h s m sa => wpList_plain rfl fun K hK => by
    unfold Oper.wp
    exact upon_of (a := withD D a) (hp n a w h s m sa) (fun v M' h' w' kk mm ss => hK _ _ (k v M' kk _ w' h' (s.put v hd) mm ss)) (fun c M' h' w' kk mm ss => kp c M' kk a w' h' s mm ss)
theorem RLD.s0 {K : Value → List HProp → Prop} {KP : List PanicEntry → List HProp → Prop} (hp : OpS P w0 L M ⟨none, op, T, p, af, none⟩ K KP)
    (k : ∀ v M', K v M' → RLD P w0 n D ops Q l L M') (kp : ∀ c M', KP c M' → XJD w0 n D (.panic c) Q L M') : RLD P w0 n D ops Q (⟨none, op, T, p, af, none⟩ :: l) L M :=
  fun a w h s m sa => wpList_plain rfl fun K hK => by
    unfold Oper.wp
    exact upon_of (a := withD D a) (hp n a w h s m sa) (fun v M' h' w' kk mm ss => hK _ _ (k v M' kk _ w' h' s mm ss)) (fun c M' h' w' kk mm ss => kp c M' kk a w' h' s mm ss)
theorem RLD.storeW {t : TypeId} {x y : Operand} {b z : Nat} {E : TypeId} {cs vs : List Value} {M' : List HProp} [q : AggT P t z] (hx : Ev L x (.pointer (some ⟨b, 0, none⟩))) (hy : Ev L y (.agg vs.toArray)) (hm : Takes M [cel b E cs] M') (hn : vs.length = z) (hc : cs.length = z) (h1 : vs.all (·.oneCell') = true)
    (k : RLD P w0 n D ops Q l L (cel b E vs :: M')) : RLD P w0 n D ops Q (⟨none, .store t x y, T, p, af, none⟩ :: l) L M :=
  RLD.s0 (OpS.storeA hx hy hn (by simpa using h1) hm (by omega)) (by
    rintro _ _ rfl
    have : setSeg cs vs 0 = vs := by simp [setSeg, List.drop_of_length_le (show cs.length ≤ vs.length by omega)]
    rw [this]
    exact k) (fun _ _ h => h.elim)
/-- The deferred call of a closure. -/
theorem RL.defer {f : Operand} {fv : Fn} {cap : List Value} {ts : Array TypeId} (hf : Ev L f (.func fv #[] cap.toArray))
    (k : RLD P w0 n [{ target := .fn fv cap.toArray, args := #[] }] ops Q l L M) : RL P w0 n ops Q (⟨none, .defer { callee := .value f, args := #[], argTypes := ts }, T, p, af, none⟩ :: l) L M :=
  fun a w h s m sa => wpList_plain rfl fun K hK => by
    have hr : (execOp a.eval ⟨none, .defer { callee := .value f, args := #[], argTypes := ts }, T, p, af, none⟩).run P w = .ok (.defer { target := .fn fv cap.toArray, args := #[] }) w := by
      simp [execOp, resolve, Deferred.ofValue, hf n a s]
    unfold Oper.wp
    rw [hr, Oper.upon_defer]
    refine hK _ _ ?_
    have := k a w h s m sa
    unfold withD at this
    rw [s.df]
    exact this
/-- What a deferred call of f comes to: it returns, the frame's mode is u' then. -/
def DefS (P : Program) (w0 : World) (f : FuncId) (args : Array Value) (u : FrameMode) (M M1 : List HProp) : Prop :=
  ∀ w h, star M h → Sat w0 w h → CallsD P f args u w fun e u' w' => (∃ v, e = .returned v) ∧ settle u' = .returning ∧ ∃ h', star M1 h' ∧ Sat w0 w' h'
theorem XJD.leave {f : FuncId} {cap : List Value} {M1 : List HProp} (c : CallT P f) (hd : DefS P w0 f cap.toArray .returning M M1) (k : XJ w0 n .ret (endOf P w0 fn R F) L M1) :
    XJD w0 n [{ target := .fn (.func f) cap.toArray, args := #[] }] .ret (endD P w0 fn R F) L M := fun a w h s m sa => by
  show Leaves P fn a.tmps _ [_] .returning w
  refine leaves_cons (by simp) (f := f) (args := cap.toArray) (by simp [invoke, c.run]) ?_
  refine (hd w h m sa).mono ?_
  rintro e u' w' ⟨⟨v, rfl⟩, hs, h', m', sa'⟩
  simp only [hs]
  obtain ⟨_, x, h1, h2⟩ := k a w' h' s m' sa'
  exact ⟨x, h1, h2⟩
theorem XJD.caught {f : FuncId} {cap : List Value} {M1 : List HProp} {ch : List PanicEntry} (c : CallT P f) (hd : DefS P w0 f cap.toArray (.panicking ch) M M1) (k : XJ w0 n .ret (endOf P w0 fn R F) L M1) :
    XJD w0 n [{ target := .fn (.func f) cap.toArray, args := #[] }] (.panic ch) (endD P w0 fn R F) L M := fun a w h s m sa => by
  show Leaves P fn a.tmps _ [_] (.panicking ch) w
  refine leaves_cons (by simp) (f := f) (args := cap.toArray) (by simp [invoke, c.run]) ?_
  refine (hd w h m sa).mono ?_
  rintro e u' w' ⟨⟨v, rfl⟩, hs, h', m', sa'⟩
  simp only [hs]
  obtain ⟨_, x, h1, h2⟩ := k a w' h' s m' sa'
  exact ⟨x, h1, h2⟩
end
attribute [irreducible] XJD CJD RLD
end Go.Proofs.YtgmapenlgammfaaGreatDoor

/- The package interp: sized, Fits, zeros, New. -/
namespace Go.Proofs.YtgmapenlgammfaaGreatDoor
open Go

/-- Whether lists have the lengths of arrays. -/
def sizedB (l : List Arr) (m : List (List Int)) : Bool := decide (l.length = m.length) && allI (fun i => decide (((m.getD i []).length : Int) = (l.getD i arr0).len)) l.length
def tasksB (l : List Task) (m : List (List (List Int))) : Bool := decide (l.length = m.length) && allI (fun i => sizedB (l.getD i task0).arrays (m.getD i [])) l.length
/-- Whether a memory fits a program. -/
def fitsB (p : Prg) (m : Mem) : Bool := validB p && sizedB p.shared m.shared && tasksB p.tasks m.arrays
theorem sized1_spec (w0 : World) (a : Arr) (A : Option Addr) (n c : Nat) : Spec Tryz.prog w0 95 #[.agg (arrRow a).toArray, .slice A n c] [] (Is (.bool (decide ((n : Int) = a.len)))) := by
  unfold arrRow
  refine Spec.enter (args := [_, _]) Tryz.func95 rfl rfl rfl (fun F => ?_)
  refine kAutoB ?_
  (apply RL.boxR; exact kEv; exact rfl; intro b2)
  refine kAutoB ?_
  refine XJ.ret1 rfl rfl [] (by exact kGives) ⟨?_, rfl⟩
  rfl
theorem sized_spec (w0 : World) (A : Option Addr) (c : Nat) (l : List Arr) (v : Value) (m : List (List Int)) (hl : l.length < 4611686018427387904) (hR : RowsB w0 2 A (l.map arrRow)) (hm : MatR w0 v m) :
    Spec Tryz.prog w0 58 #[.slice A l.length c, v] [] (Is (.bool (sizedB l m))) := by
  obtain ⟨B, e, us, rfl, hce, hul, hrows, hin⟩ := hm
  have hq := arr_equal_spec w0 95 [] [] A B c e (l.map arrRow) us [] (fun i => decide (((m.getD i []).length : Int) = (l.getD i arr0).len)) inferInstance (by simpa using hl) hR (fun r hr => by
    obtain ⟨a, _, rfl⟩ := List.mem_map.1 hr; rfl) hrows (fun i hi hj => by
    have hi' : i < l.length := by simpa using hi
    obtain ⟨A1, c1, h1, h2, h3⟩ := hin i (m.getD i []) us[i] (by rw [List.getD_eq_getElem?_getD]; simp [show i < m.length by omega]) (by simp [hj])
    rw [getD_eq l arr0 i hi', List.getElem_map, h1]
    exact sized1_spec w0 _ A1 _ c1)
  rw [List.length_map, hul] at hq
  refine Spec.enter (args := [_, _]) Tryz.func58 rfl rfl rfl (fun F => ?_)
  refine kAutoB ?_
  (apply RL.callIs; exact kEv; exact inferInstance; exact kEvl; exact hq; exact rfl)
  refine kAutoB ?_
  exact XJ.ret1 rfl rfl [] (by exact kGives) ⟨rfl, rfl⟩
theorem fits1_spec (w0 : World) (t : Task) (cs : List Value) (hR : TaskR w0 t cs) (ha : t.arrays.length < 4611686018427387904) (v : Value) (m : List (List Int)) (hm : MatR w0 v m) :
    Spec Tryz.prog w0 60 #[.agg cs.toArray, v] [] (Is (.bool (sizedB t.arrays m))) := by
  obtain ⟨A1, c1, A2, c2, bs, rfl, h1, h2, h3, h4, h5⟩ := hR.ex
  have hs := sized_spec w0 A2 c2 t.arrays v m ha h4 hm
  obtain ⟨A5, c5, rfl, _⟩ := h5.kids
  refine Spec.enter (args := [_, _]) Tryz.func60 rfl rfl rfl (fun F => ?_)
  refine kAutoB ?_
  (apply RL.boxR; exact kEv; exact rfl; intro b2)
  refine kAutoB ?_
  (apply RL.callIs; exact kEv; exact inferInstance; exact kEvl; exact hs; exact rfl)
  refine kAutoB ?_
  exact XJ.ret1 rfl rfl [] (by exact kGives) ⟨rfl, rfl⟩
theorem fits_spec (w0 : World) (hT : Tab w0) (p : Prg) (cs : List Value) (hf : Fit p) (hR : PrgR w0 p cs) (m : Mem) (ms : List Value) (hM : MemR w0 ms m) :
    Spec Tryz.prog w0 27 #[.agg cs.toArray, .agg ms.toArray] [] (Is (.bool (fitsB p m))) := by
  have hV := Valid_spec w0 hT p cs hf hR
  obtain ⟨A1, c1, A2, c2, rfl, h1, h2, h3, h4⟩ := hR.ex
  obtain ⟨u, v, rfl, hu, hv⟩ := hM
  have hS := sized_spec w0 A1 c1 p.shared v m.shared hf.shared h3 hv
  obtain ⟨rows, hrl, hrows, hrt⟩ := h4.ex
  obtain ⟨B, e, us, rfl, hce, hul, hurows, hin⟩ := hu
  have hq := task_equal_spec w0 60 [] [] A2 B c2 e rows us [] (fun i => sizedB (p.tasks.getD i task0).arrays (m.arrays.getD i [])) inferInstance (by have := hf.tasks; omega) hrows (fun r hr => by
    obtain ⟨i, hi, rfl⟩ := List.mem_iff_getElem.1 hr
    obtain ⟨A5, c5, A6, c6, bs, e', g1, g2, g3, g4, g5⟩ := (hrt i (p.tasks[i]'(by omega)) rows[i] (by simp [show i < p.tasks.length by omega]) (by simp [hi])).ex
    rw [e']
    obtain ⟨A7, c7, rfl, _⟩ := g5.kids
    rfl) hurows (fun i hi hj => by
    have hi' : i < p.tasks.length := by omega
    rw [getD_eq p.tasks task0 i hi']
    have hm' := hf.each _ (List.getElem_mem hi')
    exact fits1_spec w0 _ _ (hrt i _ _ (by simp [hi']) (by simp [hi])) hm'.2.1 us[i] (m.arrays.getD i []) (hin i _ us[i] (by rw [List.getD_eq_getElem?_getD]; simp [show i < m.arrays.length by omega]) (by simp [hj])))
  rw [hrl, hul] at hq
  refine Spec.enter (args := [_, _]) Tryz.func27 rfl rfl rfl (fun F => ?_)
  refine kAutoB ?_
  (apply RL.boxR; exact kEv; exact rfl; intro b2)
  (apply RL.boxR; exact kEv; exact rfl; intro b3)
  refine kAutoB ?_
  (apply RL.callIs; exact kEv; exact inferInstance; exact kEvl; exact hV; exact rfl)
  cases e1 : validB p
  case false =>
    refine kAutoB ?_
    refine XJ.ret1 rfl rfl [] (by exact kGives) ⟨?_, rfl⟩
    rw [fitsB, e1]; rfl
  refine kAutoB ?_
  (apply RL.callIs; exact kEv; exact inferInstance; exact kEvl; exact hS; exact rfl)
  cases e2 : sizedB p.shared m.shared
  case false =>
    refine kAutoB ?_
    refine XJ.ret1 rfl rfl [] (by exact kGives) ⟨?_, rfl⟩
    rw [fitsB, e1, e2]; rfl
  refine kAutoB ?_
  (apply RL.callIs; exact kEv; exact inferInstance; exact kEvl; exact hq; exact rfl)
  refine kAutoB ?_
  refine XJ.ret1 rfl rfl [] (by exact kGives) ⟨?_, rfl⟩
  rw [fitsB, e1, e2]
  simp [tasksB]
/-- Lists of zeros of the lengths of arrays. -/
def zerosL (l : List Arr) : List (List Int) := l.map fun a => List.replicate a.len.toNat 0
theorem zeros_spec (w0 : World) (A : Option Addr) (c : Nat) (l : List Arr) (hl : l.length ≤ 1000000) (ha : ∀ a ∈ l, 0 ≤ a.len ∧ a.len ≤ 1000000) (hR : RowsB w0 2 A (l.map arrRow)) :
    Spec Tryz.prog w0 81 #[.slice A l.length c] [] (Ret (fun u N => ∃ A c us, u = .slice A l.length c ∧ us.length = l.length ∧ N = row 30 1 u l.length us :: innerM us (zerosL l)) noP) := by
  refine Spec.enter (args := [_]) Tryz.func81 rfl rfl rfl (fun F => ?_)
  refine kAutoB ?_
  refine CJ.gives (row_nil 30 1) ?_
  refine CJ.loop (σ := Nat × Option Addr × Nat × List Value) (fun s => s.1 ≤ l.length ∧ s.2.2.2.length = s.1) (fun s => [(8, .int .i64 (s.1 : Int)), (6, .slice A l.length c), (7, .int .i64 l.length), (3, .slice s.2.1 s.1 s.2.2.1)])
    (fun s => row 30 1 (.slice s.2.1 s.1 s.2.2.1) s.1 s.2.2.2 :: (innerM s.2.2.2 (zerosL (l.take s.1)) ++ F)) (fun s => l.length - s.1) (0, none, 0, []) ⟨Nat.zero_le _, rfl⟩ (by exact kEsub) (by exact kGives) ?_
  rintro ⟨i, Ao, co, us⟩ ⟨hi, hus⟩
  simp only at hi hus
  refine kAutoB ?_
  cases hlt : decide ((i : Int) < (l.length : Int))
  · have hge : i = l.length := by have := of_decide_eq_false hlt; omega
    subst hge
    refine kAutoB ?_
    refine XJ.ret1 rfl rfl (row 30 1 (.slice Ao l.length co) l.length us :: innerM us (zerosL l)) ?_ ⟨Ao, co, us, rfl, hus, rfl⟩
    simp only [List.take_length]
    exact Gives.refl _
  · have hlt' : i < l.length := by have := of_decide_eq_true hlt; omega
    obtain ⟨b, o, e, hrl, hb⟩ := hR.at_ i (by simpa using hlt')
    subst e
    simp only [List.getElem_map, arrRow] at hb hrl
    obtain ⟨ha0, ha1⟩ := ha _ (List.getElem_mem hlt')
    have hn : l[i].len = ((l[i].len.toNat : Nat) : Int) := by omega
    generalize hz : l[i].len.toNat = z at hn
    rw [hn] at hb
    refine kAutoB ?_
    apply RL.pur; (apply OpP.indexAddr; exact kEv; exact kEv; exact hlt'); exact rfl
    apply RL.pur; (apply OpP.loadA; exact kEv; exact HasAt.base hb; exact rfl); exact rfl
    (apply RL.alloc; exact rfl; exact rfl; intro b5)
    refine kAutoB ?_
    (apply RL.storeW; exact kEv; exact kEv; exact kTake; exact rfl; exact rfl; exact rfl)
    refine kAutoB ?_
    refine RL.makeRow (by exact kEv) (by exact kEv) rfl rfl rfl (by omega) (by omega) rfl (fun b6 => ?_)
    refine kAutoB ?_
    (apply RL.buildSlice; exact rfl; exact kEvl; exact rfl; (intro w; kernel_rfl); exact rfl; intro b3)
    refine RL.append (by exact kEv) (by exact kEv) (by exact kTake) (fun h _ => ⟨rfl, (fun u hu => by simp at hu; subst hu; rfl), .inr ⟨_, _, _, rfl, HasAt.pt (Takes.here _ _) atAll⟩⟩) (m := 1) (by simp only [maxLen]; omega) (by omega) rfl (fun A4 c4 => ?_)
    refine kAutoB ?_
    rw [i64_succ i (by omega)]
    refine XJ.round (i + 1, A4, c4, us ++ [.slice (some ⟨b6, 0, none⟩) z z]) ⟨by simp only; omega, by simp [hus]⟩ (by simp only; omega) (by exact kEsub) ?_
    simp only
    have hzl : zerosL (l.take (i + 1)) = zerosL (l.take i) ++ [List.replicate z 0] := by
      unfold zerosL
      rw [List.take_succ_eq_append_getElem hlt', List.map_append]
      simp [hz]
    rw [hzl, innerM_snoc us (zerosL (l.take i)) _ _ (by simp [zerosL]; omega)]
    have hrr : row 21 1 (.slice (some ⟨b6, 0, none⟩) z z) (List.replicate z (0 : Int)).length ((List.replicate z (0 : Int)).map intV) = row 21 1 (.slice (some ⟨b6, 0, none⟩) z z) z (List.replicate z (.int .i32 0)) := by
      rw [List.length_replicate, List.map_replicate]; rfl
    rw [hrr]
    exact Gives.cons (Takes.here _ _) (Gives.drop (Gives.trans (B := row 21 1 (.slice (some ⟨b6, 0, none⟩) z z) z (List.replicate z (.int .i32 0)) :: (innerM us (zerosL (l.take i)) ++ F)) (by exact kGives) Gives.move))
/-- Lists of lists, owned. -/
def matM (v : Value) (us : List Value) (m : List (List Int)) : List HProp := row 30 1 v m.length us :: innerM us m
def cubM : List Value → List (List Value) → List (List (List Int)) → List HProp
  | v :: vs, us :: uss, m :: q => matM v us m ++ cubM vs uss q
  | _, _, _ => []
theorem cubM_snoc : ∀ (vs : List Value) (uss : List (List Value)) (q : List (List (List Int))) (v : Value) (us : List Value) (m : List (List Int)), vs.length = q.length → uss.length = q.length → cubM (vs ++ [v]) (uss ++ [us]) (q ++ [m]) = cubM vs uss q ++ matM v us m
  | [], [], [], v, us, m, _, _ => by simp [cubM]
  | [], [], _ :: _, _, _, _, h, _ => by simp at h
  | [], _ :: _, [], _, _, _, _, h => by simp at h
  | [], _ :: _, _ :: _, _, _, _, h, _ => by simp at h
  | _ :: _, _, [], _, _, _, h, _ => by simp at h
  | _ :: _, [], _ :: _, _, _, _, _, h => by simp at h
  | a :: vs, b :: uss, c :: q, v, us, m, h1, h2 => by
    simp only [List.cons_append, cubM]
    rw [cubM_snoc vs uss q v us m (by simpa using h1) (by simpa using h2), List.append_assoc]
/-- A memory, owned: the arrays of tasks. -/
def cubA (v : Value) (vs : List Value) (uss : List (List Value)) (q : List (List (List Int))) : List HProp := row 27 1 v q.length vs :: cubM vs uss q
structure Lens (vs : List Value) (uss : List (List Value)) (q : List (List (List Int))) : Prop where
  l1 : vs.length = q.length
  l2 : uss.length = q.length
  each : ∀ (i : Nat) (us : List Value) (m : List (List Int)), uss[i]? = some us → q[i]? = some m → us.length = m.length
theorem Lens.nil : Lens [] [] [] := ⟨rfl, rfl, by simp⟩
theorem Lens.snoc {vs : List Value} {uss : List (List Value)} {q : List (List (List Int))} (h : Lens vs uss q) {v : Value} {us : List Value} {m : List (List Int)} (hl : us.length = m.length) : Lens (vs ++ [v]) (uss ++ [us]) (q ++ [m]) := by
  refine ⟨by simp [h.l1], by simp [h.l2], ?_⟩
  intro i a b h1 h2
  have := h.l2
  rcases Nat.lt_or_ge i uss.length with hi | hi
  · rw [List.getElem?_append_left hi] at h1
    rw [List.getElem?_append_left (by omega)] at h2
    exact h.each i a b h1 h2
  · rw [List.getElem?_append_right hi] at h1
    rw [List.getElem?_append_right (by omega)] at h2
    have h0 : i - uss.length = 0 := by
      rcases Nat.eq_zero_or_pos (i - uss.length) with h | h
      · exact h
      · rw [List.getElem?_eq_none (by simp; omega)] at h1; cases h1
    rw [h0] at h1
    rw [show i - q.length = 0 by omega] at h2
    simp at h1 h2
    subst h1 h2
    exact hl
def zeroMem (p : Prg) : Mem := ⟨p.tasks.map fun t => zerosL t.arrays, zerosL p.shared⟩
theorem New_spec (w0 : World) (hT : Tab w0) (p : Prg) (cs : List Value) (hf : Fit p) (hR : PrgR w0 p cs) :
    Spec Tryz.prog w0 43 #[.agg cs.toArray] [] (Ret (fun v N => (validB p = false ∧ v = .tuple #[.agg #[.slice none 0 0, .slice none 0 0], .int .i64 3] ∧ N = []) ∨
      (validB p = true ∧ ∃ vA vS vs uss us, v = .tuple #[.agg #[vA, vS], .int .i64 0] ∧ Lens vs uss (zeroMem p).arrays ∧ us.length = (zeroMem p).shared.length ∧ N = cubA vA vs uss (zeroMem p).arrays ++ matM vS us (zeroMem p).shared)) noP) := by
  have hV := Valid_spec w0 hT p cs hf hR
  obtain ⟨A1, c1, A2, c2, rfl, h1, h2, h3, h4⟩ := hR.ex
  obtain ⟨rows, hrl, hrows, hrt⟩ := h4.ex
  refine Spec.enter (args := [_]) Tryz.func43 rfl rfl rfl (fun F => ?_)
  refine kAutoB ?_
  (apply RL.boxR; exact kEv; exact rfl; intro b1)
  refine kAutoB ?_
  (apply RL.alloc; exact rfl; exact rfl; intro b2)
  refine kAutoB ?_
  (apply RL.callIs; exact kEv; exact inferInstance; exact kEvl; exact hV; exact rfl)
  cases hv : validB p
  · refine kAutoB ?_
    (apply RL.build (r := .agg #[.slice none 0 0, .slice none 0 0]); exact rfl; exact kEvl; (intro w; kernel_rfl); exact rfl)
    (apply RL.storeA; exact kEv; exact kEv; exact kTake; exact rfl; exact rfl; exact rfl)
    refine kAutoB ?_
    refine XJ.retCT rfl rfl rfl (HasAt.pt (Takes.here _ _) atAll) rfl [] (by exact kGives) (.inl ⟨rfl, rfl, rfl⟩)
  have hvv := hv
  rw [validB, Bool.and_eq_true, Bool.and_eq_true, arrsB, Bool.and_eq_true] at hvv
  obtain ⟨⟨⟨hv1, hv2⟩, hv3⟩, hv4⟩ := hvv
  have hv1' : p.shared.length ≤ 4 := by have := of_decide_eq_true hv1; omega
  have hv3' : p.tasks.length ≤ 8 := by have := of_decide_eq_true hv3; omega
  have harr : ∀ a : Arr, arrB a = true → 0 ≤ a.len ∧ a.len ≤ 1000000 := by
    intro a ha
    unfold arrB at ha
    simp only [Bool.and_eq_true, Bool.not_eq_true', decide_eq_false_iff_not] at ha
    omega
  have hZ := zeros_spec w0 A1 c1 p.shared (by omega) (fun a ha => harr a (List.all_eq_true.1 hv2 a ha)) h3
  refine kAutoB ?_
  (apply RL.callK; exact kEv; exact inferInstance; exact kEvl; exact (Takes.nil _); exact hZ; exact rfl)
  rintro _ _ ⟨vSA, vSc, us, rfl, hus, rfl⟩
  refine RL.gives Gives.front2 ?_
  refine kAutoB ?_
  (apply RL.build (r := .agg #[.slice none 0 0, .slice vSA p.shared.length vSc]); exact rfl; exact kEvl; (intro w; kernel_rfl); exact rfl)
  (apply RL.alloc; exact rfl; exact rfl; intro b4)
  (apply RL.storeA; exact kEv; exact kEv; exact kTake; exact rfl; exact rfl; exact rfl)
  refine kAutoB ?_
  have hp1 : Gives (cel b4 29 [.slice none 0 0, .slice vSA p.shared.length vSc] :: cel b2 29 [.slice none 0 0, .slice none 0 0] :: ((row 30 1 (.slice vSA p.shared.length vSc) p.shared.length us :: innerM us (zerosL p.shared)) ++ F)) (cel b4 29 [.slice none 0 0, .slice vSA p.shared.length vSc] :: row 27 1 (.slice none 0 0) 0 [] :: cel b2 29 [.slice none 0 0, .slice none 0 0] :: (cubM [] [] [] ++ ((row 30 1 (.slice vSA p.shared.length vSc) p.shared.length us :: innerM us (zerosL p.shared)) ++ F))) := by
    refine (row_nil 27 1).trans ?_
    exact Gives.cons (Takes.there (Takes.here _ _)) (Gives.cons (Takes.here _ _) (Gives.refl _))
  refine CJ.gives (M' := cel b4 29 [.slice none 0 0, .slice vSA p.shared.length vSc] :: cel b2 29 [.slice none 0 0, .slice none 0 0] :: ((row 30 1 (.slice vSA p.shared.length vSc) p.shared.length us :: innerM us (zerosL p.shared)) ++ F)) (by exact kGives) ?_
  refine CJ.gives hp1 ?_
  generalize hG : (row 30 1 (.slice vSA p.shared.length vSc) p.shared.length us :: innerM us (zerosL p.shared)) ++ F = G
  have hdef : ∀ i, zeroMem p = zeroMem p → (zeroMem p).arrays.take i = (p.tasks.take i).map fun t => zerosL t.arrays := fun i _ => by simp [zeroMem, List.map_take]
  refine CJ.loop (σ := Nat × Option Addr × Nat × List Value × List (List Value)) (fun s => s.1 ≤ p.tasks.length ∧ Lens s.2.2.2.1 s.2.2.2.2 ((zeroMem p).arrays.take s.1))
    (fun s => [(18, .int .i64 (s.1 : Int)), (17, .int .i64 p.tasks.length), (16, .slice A2 p.tasks.length c2), (4, .pointer (some ⟨b4, 0, none⟩)), (2, .pointer (some ⟨b2, 0, none⟩))])
    (fun s => cel b4 29 [.slice s.2.1 s.1 s.2.2.1, .slice vSA p.shared.length vSc] :: row 27 1 (.slice s.2.1 s.1 s.2.2.1) s.1 s.2.2.2.1 :: cel b2 29 [.slice none 0 0, .slice none 0 0] :: (cubM s.2.2.2.1 s.2.2.2.2 ((zeroMem p).arrays.take s.1) ++ G))
    (fun s => p.tasks.length - s.1) (0, none, 0, [], []) ⟨Nat.zero_le _, Lens.nil⟩ (by exact kEsub) (by exact kGives) ?_
  rintro ⟨i, Ao, co, vs, uss⟩ ⟨hi, hL⟩
  simp only at hi hL
  refine kAutoB ?_
  cases hlt : decide ((i : Int) < (p.tasks.length : Int))
  · have hge : i = p.tasks.length := by have := of_decide_eq_false hlt; omega
    have hz : (zeroMem p).arrays.take i = (zeroMem p).arrays := List.take_of_length_le (by simp [zeroMem, hge])
    rw [hz] at hL
    refine kAutoB ?_
    (apply RL.storeA; exact kEv; exact kEv; exact Takes.there (Takes.there (Takes.here _ _)); exact rfl; exact rfl; exact rfl)
    refine kAutoB ?_
    subst hge
    refine XJ.retCT rfl rfl rfl (HasAt.pt (Takes.here _ _) atAll) rfl (cubA (.slice Ao p.tasks.length co) vs uss (zeroMem p).arrays ++ matM (.slice vSA p.shared.length vSc) us (zeroMem p).shared) ?_ (.inr ⟨rfl, _, _, vs, uss, us, rfl, hL, by rw [hus]; simp [zeroMem, zerosL], rfl⟩)
    refine Gives.drop (Gives.drop ?_)
    have e1 : (zeroMem p).arrays.length = p.tasks.length := by simp [zeroMem]
    have e2 : (zeroMem p).shared.length = p.shared.length := by simp [zeroMem, zerosL]
    unfold cubA matM
    rw [e1, e2, hz, ← hG, List.append_assoc]
    exact Gives.refl _
  · have hlt' : i < p.tasks.length := by have := of_decide_eq_true hlt; omega
    obtain ⟨b, o, hA2, hrl', hb⟩ := hrows.at_ i (by omega)
    have hr := hrt i p.tasks[i] (rows[i]'(by omega)) (by simp [hlt']) (by simp [show i < rows.length by omega])
    obtain ⟨A5, c5, A6, c6, bs, hrr, g1, g2, g3, g4, g5⟩ := hr.ex
    obtain ⟨A7, c7, hbs, _⟩ := g5.kids
    subst hA2 hbs
    rw [hrr] at hb hrl'
    have htb := List.all_eq_true.1 hv4 _ (List.getElem_mem hlt')
    have hta : arrsB p.tasks[i].arrays 4 = true := by
      unfold taskB at htb
      simp only [Bool.and_eq_true] at htb
      exact htb.1.1.2
    unfold arrsB at hta
    rw [Bool.and_eq_true] at hta
    have htl : p.tasks[i].arrays.length ≤ 4 := by have := of_decide_eq_true hta.1; omega
    have hZ2 := zeros_spec w0 A6 c6 p.tasks[i].arrays (by omega) (fun a ha => harr a (List.all_eq_true.1 hta.2 a ha)) g4
    have hzt : (zeroMem p).arrays.take (i + 1) = (zeroMem p).arrays.take i ++ [zerosL p.tasks[i].arrays] := by
      rw [List.take_succ_eq_append_getElem (by simpa [zeroMem] using hlt')]
      simp [zeroMem]
    have hzlen : ((zeroMem p).arrays.take i).length = i := by simp [zeroMem]; omega
    refine kAutoB ?_
    apply RL.pur; (apply OpP.indexAddr; exact kEv; exact kEv; exact hlt'); exact rfl
    apply RL.pur; (apply OpP.loadA; exact kEv; exact HasAt.base hb; exact hrl'); exact rfl
    (apply RL.alloc; exact rfl; exact rfl; intro b6)
    refine kAutoB ?_
    (apply RL.storeW; exact kEv; exact kEv; exact kTake; exact rfl; exact rfl; exact rfl)
    refine kAutoB ?_
    (refine CJ.draws mixed 7 [cel b4 _ _, cel b6 _ _] (by exact kGives) (dom_of (by kernel_rfl)) ?_)
    ((first | refine kAjB 0 ?_ | refine kAjS 0 ?_); (first | refine kAjB 1 ?_ | refine kAjS 1 ?_); (first | refine kAjB 2 ?_ | refine kAjS 2 ?_); (first | refine kAjB 3 ?_ | refine kAjS 3 ?_))
    (refine AJ.loud1 (i := 4) (by kernel_rfl) (by kernel_rfl) rfl (by kernel_rfl) (by kernel_rfl) rfl rfl rfl rfl rfl rfl (OpS.call (by exact kEv) inferInstance (by exact kEvl) (Takes.nil _) hZ2) ?_ ?_)
    · rintro _ _ ⟨N, ⟨A8, c8, us8, rfl, hus8, rfl⟩, rfl⟩
      refine ⟨Gives.skipApp (by exact kGives), ?_⟩
      (refine AJ.loud1 (i := 5) (by kernel_rfl) (by kernel_rfl) rfl (by kernel_rfl) (by kernel_rfl) rfl rfl rfl rfl rfl rfl (OpS.buildSlice (E := 27) [.slice A8 p.tasks[i].arrays.length c8] rfl (by exact kEvl) (fun w => by kernel_rfl)) ?_ ?_)
      · rintro _ _ ⟨b9, rfl, rfl⟩
        refine ⟨Gives.drop (Gives.skipApp (by exact kGives)), ?_⟩
        (refine AJ.loud1 (i := 6) (by kernel_rfl) (by kernel_rfl) rfl (by kernel_rfl) (by kernel_rfl) rfl rfl rfl rfl rfl rfl (OpS.append (m := 1) (news := [.slice A8 p.tasks[i].arrays.length c8]) (by exact kEv) (by exact kEv) (Takes.there (Takes.appR _ (Takes.there (Takes.there (Takes.here _ _))))) (fun h m => ⟨rfl, by simp [Value.oneCell'], .inr ⟨_, _, _, rfl, HasAt.pt (Takes.here _ _) atAll⟩⟩) (by simp only [maxLen]; omega) (by omega)) ?_ ?_)
        · rintro _ _ ⟨⟨A10, c10, rfl⟩, rfl⟩
          refine ⟨Gives.drop (Gives.drop (Gives.skipApp (by exact kGives))), ?_⟩
          (refine AJ.tail (by kernel_rfl) (by kernel_rfl) rfl (by kernel_rfl) (by kernel_rfl) (by kernel_rfl) ?_)
          refine RL.gives (M' := cel b4 29 [.slice Ao i co, .slice vSA p.shared.length vSc] :: row 27 1 (.slice A10 (i + 1) c10) (i + 1) (vs ++ [.slice A8 p.tasks[i].arrays.length c8]) :: cel b2 29 [.slice none 0 0, .slice none 0 0] :: (cubM (vs ++ [.slice A8 p.tasks[i].arrays.length c8]) (uss ++ [us8]) ((zeroMem p).arrays.take (i + 1)) ++ G)) ?_ ?_
          · have e1 : (zerosL p.tasks[i].arrays).length = p.tasks[i].arrays.length := by simp [zerosL]
            rw [hzt, cubM_snoc _ _ _ _ _ _ hL.l1 hL.l2]
            unfold matM
            rw [e1]
            refine Gives.cons (Takes.there (Takes.there (Takes.appR _ (Takes.there (Takes.here _ _))))) (Gives.cons (Takes.here _ _) (Gives.cons (Takes.there (Takes.appR _ (Takes.there (Takes.here _ _)))) (Gives.drop ((Takes.drop2 _ _ _).trans Gives.swapApp))))
          refine kAutoB ?_
          (apply RL.store; exact kEv; exact kEv; exact Takes.here _ _; exact rfl; exact rfl; exact rfl)
          refine kAutoB ?_
          rw [i64_succ i (by omega)]
          refine XJ.round (i + 1, A10, c10, vs ++ [.slice A8 p.tasks[i].arrays.length c8], uss ++ [us8]) ⟨by simp only; omega, ?_⟩ (by simp only; omega) (by exact kEsub) (by exact kGives)
          rw [hzt]
          exact hL.snoc (by rw [hus8]; simp [zerosL])
        · rintro _ _ h; exact h.elim
      · rintro _ _ h; exact h.elim
    · rintro _ _ ⟨_, h, _⟩; exact h.elim
end Go.Proofs.YtgmapenlgammfaaGreatDoor

/- A job's state as it lies in memory; expressions, arrays, steps over it. -/
namespace Go.Proofs.YtgmapenlgammfaaGreatDoor
open Go

def rowI (u : Value) (l : List Int) : HProp := row 21 1 u l.length (l.map intV)
theorem innerM_perm : ∀ (a : Nat) (us : List Value) (cs : List (List Int)) (u : Value) (l : List Int), us[a]? = some u → cs[a]? = some l → (innerM us cs).Perm (rowI u l :: innerM (us.eraseIdx a) (cs.eraseIdx a))
  | _, [], _, _, _, h, _ => by simp at h
  | _, _ :: _, [], _, _, _, h => by simp at h
  | 0, x :: us, y :: cs, u, l, h1, h2 => by
    simp at h1 h2
    subst h1; subst h2
    exact .refl _
  | a + 1, x :: us, y :: cs, u, l, h1, h2 => by
    simp only [List.getElem?_cons_succ] at h1 h2
    simp only [List.eraseIdx_cons_succ, innerM]
    exact ((innerM_perm a us cs u l h1 h2).cons _).trans (.swap _ _ _)
theorem eraseIdx_set {α : Type} : ∀ (a : Nat) (l : List α) (x : α), (l.set a x).eraseIdx a = l.eraseIdx a
  | _, [], _ => by simp
  | 0, _ :: _, _ => by simp
  | a + 1, y :: l, x => by simp [eraseIdx_set a l x]
section
attribute [local semireducible] Takes Gives
theorem innerM_take {us : List Value} {cs : List (List Int)} {a : Nat} {u : Value} {l : List Int} (h1 : us[a]? = some u) (h2 : cs[a]? = some l) (F : List HProp) : Takes (innerM us cs ++ F) [rowI u l] (innerM (us.eraseIdx a) (cs.eraseIdx a) ++ F) := fun h m =>
  star.perm ((innerM_perm a us cs u l h1 h2).append_right F) m
theorem innerM_put {us : List Value} {cs : List (List Int)} {a : Nat} {u : Value} (l : List Int) (h1 : us[a]? = some u) (h2 : a < cs.length) (F : List HProp) : Gives (rowI u l :: (innerM (us.eraseIdx a) (cs.eraseIdx a) ++ F)) (innerM us (cs.set a l) ++ F) := fun h m => by
  have := (innerM_perm a us (cs.set a l) u l h1 (by simp [h2])).append_right F
  rw [eraseIdx_set] at this
  exact star.perm this.symm m
end
/-- Where a job's state lies. -/
structure JP where
  bm : Nat
  rv : Nat
  ra : Nat
  br : Nat
  us : List Value
  inV : Value
  mA : Value
  mS : Value
def outCells (l : List (Int × Int)) : List Value := l.flatMap fun p => [.int .i64 p.1, intV p.2]
theorem outCells_length (l : List (Int × Int)) : (outCells l).length = l.length * 2 := by
  induction l with
  | nil => rfl
  | cons p r ih => simp only [outCells, List.flatMap_cons, List.length_append, List.length_cons, List.length_nil] at *; omega
def arrV (J : JP) (E : JE) : ByteArray → Option Value := fun nm => (E.ix nm).map fun i => J.us.getD i undef
def machV (J : JP) (E : JE) : List Value := [.map (some J.rv), .map (some J.ra), J.inV, .int .i64 E.fuel, .pointer (some ⟨J.br, 0, none⟩)]
def resV (J : JP) (s : JS) (A : Option Addr) (c : Nat) (e : Int) : List Value := [J.mA, J.mS, .slice A s.out.length c, .int .i64 s.read, .int .i64 s.steps, .int .i64 e]
def jobM (J : JP) (E : JE) (s : JS) (A : Option Addr) (c : Nat) : List HProp :=
  rcel J.bm 114 (machV J E) :: rmp Value.string J.ra (arrV J E) :: mp Value.string J.rv (fun nm => (s.vars nm).map intV)
    :: cel J.br 37 (resV J s A c 0) :: row 106 2 (.slice A s.out.length c) s.out.length (outCells s.out) :: innerM J.us s.cells
/-- The head of a job's memory: all but the arrays' cells. -/
def jobH (J : JP) (E : JE) (s : JS) (A : Option Addr) (c : Nat) : List HProp :=
  [rcel J.bm 114 (machV J E), rmp Value.string J.ra (arrV J E), mp Value.string J.rv (fun nm => (s.vars nm).map intV),
    cel J.br 37 (resV J s A c 0), row 106 2 (.slice A s.out.length c) s.out.length (outCells s.out)]
section
attribute [local semireducible] Takes Gives
theorem job_take {J : JP} {E : JE} {s : JS} {A : Option Addr} {c a : Nat} {u : Value} {l : List Int} (h1 : J.us[a]? = some u) (h2 : s.cells[a]? = some l) (Z : List HProp) :
    Takes (jobM J E s A c ++ Z) [rowI u l] (jobH J E s A c ++ (innerM (J.us.eraseIdx a) (s.cells.eraseIdx a) ++ Z)) := by
  have := Takes.appR (jobH J E s A c) (innerM_take h1 h2 Z)
  rw [← List.append_assoc] at this
  exact this
theorem job_put {J : JP} {E : JE} {s : JS} {A : Option Addr} {c a : Nat} {u : Value} (l : List Int) (h1 : J.us[a]? = some u) (h2 : a < s.cells.length) (Z : List HProp) :
    Gives (rowI u l :: (jobH J E s A c ++ (innerM (J.us.eraseIdx a) (s.cells.eraseIdx a) ++ Z))) (jobM J E { s with cells := s.cells.set a l } A c ++ Z) := fun h m => by
  have m1 : star (jobH J E s A c ++ (rowI u l :: (innerM (J.us.eraseIdx a) (s.cells.eraseIdx a) ++ Z))) h := star.perm List.perm_middle.symm m
  obtain ⟨g1, g2, l1, l2, d, x, y⟩ := m1.split
  have y' := innerM_put l h1 h2 Z _ y
  have := star.join l1 l2 d x y'
  rw [← List.append_assoc] at this
  exact this
theorem RL.fact {P : Program} {w0 : World} {n : Nat} {ops : Array Oper} {Q : Exit → Act → World → Prop} {l : List Oper} {L : Env} {M : List HProp} {p : Prop} (f : ∀ h, star M h → p) (k : p → RL P w0 n ops Q l L M) : RL P w0 n ops Q l L M := by
  unfold RL at *
  exact fun a w h s m t => k (f h m) a w h s m t
attribute [local semireducible] row in
theorem row_addr {u : Value} {l : List Int} {M M' : List HProp} {h : Frag} (t : Takes M [rowI u l] M') (m : star M h) (hl : 0 < l.length) : ∃ b c, u = .slice (some ⟨b, 0, none⟩) l.length c := by
  obtain ⟨h1, h2, l1, l2, dd, ⟨e1, e2, e3⟩, m2⟩ := t h m
  rcases e3 with ⟨e, e'⟩ | ⟨g, cap, cur, e, _⟩
  · omega
  · exact ⟨g, cap, e⟩
theorem row_slice {u : Value} {l : List Int} {M M' : List HProp} {h : Frag} (t : Takes M [rowI u l] M') (m : star M h) : ∃ A c, u = .slice A l.length c := row_shape (t h m)
end
/-- What stays the same during a job. -/
structure JobF (w0 : World) (J : JP) (E : JE) (lens : List Nat) : Prop where
  us : J.us.length = lens.length
  ix : ∀ nm i, E.ix nm = some i → i < lens.length
  lens : ∀ n ∈ lens, n ≤ 1000000
  fuel : E.fuel ≤ 1000000
  inV : IntsR w0 J.inV E.inp
  inp : ∀ x ∈ E.inp, I32 x
  inl : E.inp.length ≤ 1000000000
theorem OKJ.len {E : JE} {lens : List Nat} {s : JS} (h : OKJ E lens s) : s.cells.length = lens.length := by rw [← h.lens]; simp
theorem OKJ.steps_le {w0 : World} {J : JP} {E : JE} {lens : List Nat} {s : JS} (h : OKJ E lens s) (k : JobF w0 J E lens) : s.steps ≤ 1000000 := by
  have := k.fuel
  rcases h.steps with h | h <;> omega
theorem row_ints {w0 w : World} {h : Frag} {M M' : List HProp} {u : Value} {l : List Int} (t : Takes M [rowI u l] M') (mm : star M h) (s : Go.Proofs.YtgmapenlgammfaaGreatDoor.Sat w0 w h) : IntsR w u l := by
  have tt := t
  unfold Takes at tt
  obtain ⟨A, c, rfl⟩ := row_shape (tt h mm)
  obtain ⟨h1, h2⟩ := row_rows t mm s
  exact ⟨A, c, rfl, h1, h2⟩
theorem jobM_env {w0 w : World} {h : Frag} {J : JP} {E : JE} {lens : List Nat} {s : JS} {A : Option Addr} {c : Nat} {F : List HProp} (k : JobF w0 J E lens) (o : OKJ E lens s) (m : star (jobM J E s A c ++ F) h) (sa : Go.Proofs.YtgmapenlgammfaaGreatDoor.Sat w0 w h) : EnvB w J.rv J.ra s.vars (envA E s) := by
  refine ⟨mp_mapB (M := jobM J E s A c ++ F) (by unfold jobM; exact kTake) m sa, ⟨arrV J E, rmp_mapB (M := jobM J E s A c ++ F) (by unfold jobM; exact kTake) m sa, ?_, ?_⟩, o.vars, o.envA⟩
  · intro nm hn
    unfold envA at hn
    unfold arrV
    rw [Option.map_eq_none_iff] at hn ⊢
    exact hn
  · intro nm l hn
    unfold envA at hn
    obtain ⟨i, hi, rfl⟩ := Option.map_eq_some_iff.1 hn
    have h1 := k.ix nm i hi
    have h2 := o.len
    have h3 := k.us
    refine ⟨J.us[i]'(by omega), by unfold arrV; rw [hi]; simp [List.getD_eq_getElem?_getD, show i < J.us.length by omega], ?_⟩
    have hc : s.cells[i]? = some (s.cells.getD i []) := by simp [List.getD_eq_getElem?_getD, show i < s.cells.length by omega]
    exact row_ints (job_take (u := J.us[i]'(by omega)) (by simp [show i < J.us.length by omega]) hc F) m sa
theorem eval_own (w0 : World) {J : JP} {E : JE} {lens : List Nat} (k : JobF w0 J E lens) {s : JS} (o : OKJ E lens s) (A : Option Addr) (c : Nat) (n : Node) (cs : List Value) (hs : n.size < 4611686018427387904) (hR : NodeR w0 n cs) (hB : isB n 1 = true) :
    Spec Tryz.prog w0 70 #[.agg #[.map (some J.rv), .map (some J.ra)], .agg cs.toArray] (jobM J E s A c)
      (Ret (fun v N => resE (evJ E s n) = .ok v ∧ N = jobM J E s A c) (fun p N => resE (evJ E s n) = .error p ∧ N = jobM J E s A c)) :=
  Spec.rebaseE fun w h m sa => eval_spec w J.rv J.ra s.vars (envA E s) (jobM_env (F := []) k o (by simpa using m) sa) n.size n cs (Nat.le_refl _) hs (hR.up sa.below) hB
theorem resE_ok {r : Except Int Int} {v : Value} (h : resE r = .ok v) : ∃ x, r = .ok x ∧ v = .int .i32 x := by
  cases r with
  | error e => cases h
  | ok x => injection h with h; exact ⟨x, rfl, h.symm⟩
theorem resE_err {r : Except Int Int} {p : List PanicEntry} (h : resE r = .error p) : ∃ e, r = .error e ∧ p = stopV e := by
  cases r with
  | error e => injection h with h; exact ⟨e, rfl, h.symm⟩
  | ok x => cases h
/-- What a call on the machine comes to: r's error, its state in memory. -/
abbrev JRes (J : JP) (E : JE) (r : JR) : Ending → List HProp → Prop :=
  Ret (fun v N => r.2 = none ∧ v = .tuple #[] ∧ ∃ A c, N = jobM J E r.1 A c) (fun p N => ∃ e, r.2 = some e ∧ p = stopV e ∧ ∃ A c, N = jobM J E r.1 A c)
/-- The same with what stays beside it. -/
abbrev SRes (J : JP) (E : JE) (X : List HProp) (r : JR) : Ending → List HProp → Prop :=
  Ret (fun v N => r.2 = none ∧ v = .tuple #[] ∧ ∃ A c, N = jobM J E r.1 A c ++ X) (fun p N => ∃ e, r.2 = some e ∧ p = stopV e ∧ ∃ A c, N = jobM J E r.1 A c ++ X)
/-- The same with a value. -/
abbrev GRes (J : JP) (E : JE) (X : List HProp) (r : JS × Except Int Int) : Ending → List HProp → Prop :=
  Ret (fun v N => ∃ x, r.2 = .ok x ∧ v = .int .i32 x ∧ ∃ A c, N = jobM J E r.1 A c ++ X) (fun p N => ∃ e, r.2 = .error e ∧ p = stopV e ∧ ∃ A c, N = jobM J E r.1 A c ++ X)
end Go.Proofs.YtgmapenlgammfaaGreatDoor

/- Memories that are owned, as memories of the base of what follows. -/
namespace Go.Proofs.YtgmapenlgammfaaGreatDoor
open Go
section
attribute [local semireducible] Takes Gives
theorem Takes.sub {A M M' F : List HProp} (k : Takes M A M') : Takes (M ++ F) A (M' ++ F) := fun h s => by
  obtain ⟨h1, h2, l1, l2, d, x, y⟩ := s.split
  have := star.join l1 l2 d (k _ x) y
  rwa [List.append_assoc] at this
end
theorem matM_R {w0 w : World} {h : Frag} {v : Value} {us : List Value} {m : List (List Int)} {M M' : List HProp} (hl : us.length = m.length) (t : Takes M (matM v us m) M') (mm : star M h) (s : Go.Proofs.YtgmapenlgammfaaGreatDoor.Sat w0 w h) : MatR w v m := by
  unfold Takes at t
  have m1 := t h mm
  have t1 : Takes (matM v us m ++ M') [row 30 1 v m.length us] (innerM us m ++ M') := Takes.here _ _
  have t1' := t1
  unfold Takes at t1'
  obtain ⟨A, c, rfl⟩ := row_shape (t1' h m1)
  obtain ⟨h1, h2⟩ := row_rows t1 m1 s
  refine ⟨A, c, us, rfl, h1, hl, h2, ?_⟩
  intro i l u e1 e2
  exact row_ints (M := matM (.slice A m.length c) us m ++ M') (Takes.there (innerM_take e2 e1 M')) m1 s
theorem cubM_take : ∀ (i : Nat) (vs : List Value) (uss : List (List Value)) (q : List (List (List Int))) (v : Value) (us : List Value) (m : List (List Int)), vs[i]? = some v → uss[i]? = some us → q[i]? = some m → (cubM vs uss q).Perm (matM v us m ++ cubM (vs.eraseIdx i) (uss.eraseIdx i) (q.eraseIdx i))
  | _, [], _, _, _, _, _, h, _, _ => by simp at h
  | _, _ :: _, [], _, _, _, _, _, h, _ => by simp at h
  | _, _ :: _, _ :: _, [], _, _, _, _, _, h => by simp at h
  | 0, a :: vs, b :: uss, c :: q, v, us, m, h1, h2, h3 => by
    simp at h1 h2 h3
    subst h1 h2 h3
    exact .refl _
  | i + 1, a :: vs, b :: uss, c :: q, v, us, m, h1, h2, h3 => by
    simp only [List.getElem?_cons_succ] at h1 h2 h3
    simp only [List.eraseIdx_cons_succ, cubM]
    refine ((cubM_take i vs uss q v us m h1 h2 h3).append_left _).trans ?_
    rw [← List.append_assoc, ← List.append_assoc]
    exact List.Perm.append_right _ List.perm_append_comm
section
attribute [local semireducible] Takes
theorem cubM_takes {i : Nat} {vs : List Value} {uss : List (List Value)} {q : List (List (List Int))} {v : Value} {us : List Value} {m : List (List Int)} (h1 : vs[i]? = some v) (h2 : uss[i]? = some us) (h3 : q[i]? = some m) (F : List HProp) : Takes (cubM vs uss q ++ F) (matM v us m) (cubM (vs.eraseIdx i) (uss.eraseIdx i) (q.eraseIdx i) ++ F) := fun h s => by
  rw [← List.append_assoc]
  exact star.perm ((cubM_take i vs uss q v us m h1 h2 h3).append_right F) s
end
theorem cubA_R {w0 w : World} {h : Frag} {v : Value} {vs : List Value} {uss : List (List Value)} {q : List (List (List Int))} {M M' : List HProp} (hl : Lens vs uss q) (t : Takes M (cubA v vs uss q) M') (mm : star M h) (s : Go.Proofs.YtgmapenlgammfaaGreatDoor.Sat w0 w h) : CubR w v q := by
  unfold Takes at t
  have m1 := t h mm
  have t1 : Takes (cubA v vs uss q ++ M') [row 27 1 v q.length vs] (cubM vs uss q ++ M') := Takes.here _ _
  have t1' := t1
  unfold Takes at t1'
  obtain ⟨A, c, rfl⟩ := row_shape (t1' h m1)
  obtain ⟨h1, h2⟩ := row_rows t1 m1 s
  refine ⟨A, c, vs, rfl, h1, hl.l1, h2, ?_⟩
  intro i m u e1 e2
  have h3 := hl.l2
  have hi : i < q.length := by
    rcases Nat.lt_or_ge i q.length with h | h
    · exact h
    · rw [List.getElem?_eq_none h] at e1; cases e1
  have e3 : uss[i]? = some (uss[i]'(by omega)) := by simp [show i < uss.length by omega]
  exact matM_R (M := cubA (.slice A q.length c) vs uss q ++ M') (hl.each i _ m e3 e1) (Takes.there1 (cubM_takes e2 e3 e1 M')) m1 s
theorem Lens.set {vs : List Value} {uss : List (List Value)} {q : List (List (List Int))} (h : Lens vs uss q) {t : Nat} {m m' : List (List Int)} (hm : q[t]? = some m) (hl : m'.length = m.length) : Lens vs uss (q.set t m') := by
  refine ⟨by simp [h.l1], by simp [h.l2], ?_⟩
  intro i us x h1 h2
  rw [List.getElem?_set] at h2
  by_cases hi : t = i
  · subst hi
    have hlt := (List.getElem?_eq_some_iff.1 hm).1
    simp [hlt] at h2
    subst h2
    rw [hl]
    exact h.each t us m h1 hm
  · rw [if_neg hi] at h2
    exact h.each i us x h1 h2
/-- A list of outputs in the base. -/
def OutsR (w : World) (v : Value) (l : List (Int × Int)) : Prop := ∃ A c, v = .slice A l.length c ∧ l.length ≤ c ∧ RowsB w 2 A (l.map fun p => [.int .i64 p.1, intV p.2])
/-- What a job comes to. -/
structure JobRes where
  mem : Mem
  out : List (Int × Int)
  read : Nat
  steps : Nat
  err : Int
def ResR (w : World) (cs : List Value) (r : JobRes) : Prop := ∃ u v o, cs = [u, v, o, .int .i64 r.read, .int .i64 r.steps, .int .i64 r.err] ∧ CubR w u r.mem.arrays ∧ MatR w v r.mem.shared ∧ OutsR w o r.out
theorem OutsR.up {w0 w : World} {v : Value} {l : List (Int × Int)} (h : OutsR w0 v l) (k : Go.RowKit.Below w0.heap.size w0 w) : OutsR w v l := by
  obtain ⟨A, c, h1, h2, h3⟩ := h
  exact ⟨A, c, h1, h2, h3.up k⟩
theorem ResR.up {w0 w : World} {cs : List Value} {r : JobRes} (h : ResR w0 cs r) (k : Go.RowKit.Below w0.heap.size w0 w) : ResR w cs r := by
  obtain ⟨u, v, o, h1, h2, h3, h4⟩ := h
  exact ⟨u, v, o, h1, h2.up k, h3.up k, h4.up k⟩
theorem MemR.up {w0 w : World} {cs : List Value} {m : Mem} (h : MemR w0 cs m) (k : Go.RowKit.Below w0.heap.size w0 w) : MemR w cs m := by
  obtain ⟨u, v, h1, h2, h3⟩ := h
  exact ⟨u, v, h1, h2.up k, h3.up k⟩
section
attribute [local semireducible] row Base
theorem row_outs {w0 w : World} {h : Frag} {M M' : List HProp} {E c : Nat} {A : Option Addr} {l : List (Int × Int)} (t : Takes M [row E 2 (.slice A l.length c) l.length (outCells l)] M') (mm : star M h) (s : Go.Proofs.YtgmapenlgammfaaGreatDoor.Sat w0 w h) : OutsR w (.slice A l.length c) l := by
  have tt := t
  unfold Takes at tt
  refine ⟨A, c, rfl, row_cap t mm, ?_⟩
  intro i r e
  rw [List.getElem?_map] at e
  obtain ⟨p, hp, rfl⟩ := Option.map_eq_some_iff.1 e
  have hi : i < l.length := by
    rcases Nat.lt_or_ge i l.length with h | h
    · exact h
    · rw [List.getElem?_eq_none h] at hp; cases hp
  obtain ⟨h1, h2, l1, l2, dd, ⟨e1, e2, e3⟩, m2⟩ := tt h mm
  rcases e3 with ⟨e, e'⟩ | ⟨g, cap, cur, e, a, _, _, hc, ht⟩
  · omega
  · simp only [Value.slice.injEq, true_and] at e
    obtain ⟨rfl, rfl⟩ := e
    refine ⟨g, 0, rfl, rfl, ?_⟩
    have hb := (s.own _ _ (l1 _ _ a)).2
    have hcell : ∀ (l : List (Int × Int)) (i j : Nat) p, l[i]? = some p → j < 2 → (outCells l)[i * 2 + j]? = ([Value.int .i64 p.1, intV p.2] : List Value)[j]? := by
      intro l
      induction l with
      | nil => intro i j p h; simp at h
      | cons x r ih =>
        intro i j p h hj
        rcases i with _ | i
        · simp at h
          subst h
          rcases j with _ | _ | j
          · rfl
          · rfl
          · omega
        · simp at h
          have := ih i j p h hj
          rw [← this]
          simp only [outCells, List.flatMap_cons]
          rw [List.getElem?_append_right (by simp; omega)]
          congr 1
          simp only [List.length_cons, List.length_nil]
          omega
    intro j u hu
    have hj : j < 2 := by
      rcases Nat.lt_or_ge j 2 with x | x
      · exact x
      · rw [List.getElem?_eq_none (by simpa using x)] at hu; cases hu
    have hx := hcell l i j p hp hj
    rw [hu, ← ht, List.getElem?_take_of_lt (by omega)] at hx
    have := HasAt.heap (o := 0) (vs := cur) hb atAll (i * 2 + j) u hx
    simpa [Nat.add_assoc] using this
end
section
attribute [local semireducible] Takes Gives
theorem Takes.head {a : HProp} {A M M' : List HProp} (k : Takes M (a :: A) M') : Takes M [a] (A ++ M') := fun h s => k h s
theorem Gives.reorg {A B R F : List HProp} : Gives (A ++ (R ++ (B ++ F))) ((A ++ B) ++ (R ++ F)) := fun h s => by
  refine star.perm ?_ s
  rw [List.append_assoc]
  refine List.Perm.append_left A ?_
  rw [← List.append_assoc, ← List.append_assoc]
  exact List.Perm.append_right F List.perm_append_comm
theorem Gives.reorgBack {A B R F : List HProp} : Gives ((A ++ B) ++ (R ++ F)) (A ++ (R ++ (B ++ F))) := fun h s => by
  refine star.perm ?_ s
  rw [List.append_assoc]
  refine List.Perm.append_left A ?_
  rw [← List.append_assoc, ← List.append_assoc]
  exact List.Perm.append_right F List.perm_append_comm
theorem Gives.under3 {a b c : HProp} {I Z : List HProp} : Gives (a :: b :: c :: (I ++ Z)) (I ++ (a :: b :: c :: Z)) := fun h s => by
  refine star.perm ?_ s
  exact ((List.perm_middle.trans ((List.perm_middle.trans (List.perm_middle.cons _)).cons _))).symm
attribute [local semireducible] row HasAt in
theorem row_at {w0 : World} {E b n c i : Nat} {xs : List Value} {x : Value} {M M' : List HProp} (t : Takes M [row E 1 (.slice (some ⟨b, 0, none⟩) n c) n xs] M') (hx : xs[i]? = some x) : HasAt w0 M b (0 + i * 1) [x] :=
  HasAt.sub (row_has t) (fun j v hv => by
    rcases j with _ | j
    · simp at hv; subst hv; exact ⟨i, by omega, hx⟩
    · simp at hv)
attribute [local semireducible] row in
theorem row_ptr {E n : Nat} {u : Value} {xs : List Value} {M M' : List HProp} {h : Frag} (t : Takes M [row E 1 u n xs] M') (m : star M h) (hl : 0 < n) : ∃ b c, u = .slice (some ⟨b, 0, none⟩) n c := by
  obtain ⟨h1, h2, l1, l2, dd, ⟨e1, e2, e3⟩, m2⟩ := t h m
  rcases e3 with ⟨e, e'⟩ | ⟨g, cap, cur, e, _⟩
  · omega
  · exact ⟨g, cap, e⟩
end
theorem innerM_append : ∀ (us vs : List Value) (a b : List (List Int)), us.length = a.length → innerM (us ++ vs) (a ++ b) = innerM us a ++ innerM vs b
  | [], vs, [], b, _ => rfl
  | [], _, _ :: _, _, h => by simp at h
  | _ :: _, _, [], _, h => by simp at h
  | u :: us, vs, x :: a, b, h => by
    simp only [List.cons_append, innerM]
    rw [innerM_append us vs a b (by simpa using h)]
end Go.Proofs.YtgmapenlgammfaaGreatDoor

/- The deferred closures of Job and Expr: recover, caught. -/
namespace Go.Proofs.YtgmapenlgammfaaGreatDoor
open Go Go.RowKit
section
attribute [local semireducible] Takes Gives Ev XJ CJ RL Spec pt ro OpP OpS HasAt
variable {P : Program} {w0 : World} {L : Env} {M : List HProp} {d : Option Tmp} {T : TypeId} {p : String} {af : Array Edge} {g : Option (Nat × Bool)}
theorem OpP.assertSome {t t' : TypeId} {x : Operand} {v : Value} (hc : concB P t = true) (hx : Ev L x (.iface t v)) : OpP P w0 L M ⟨d, .typeAssert x t' t true, T, p, af, g⟩ (.tuple #[v, .bool true]) := fun n a w h s _ _ => by
  unfold concB at hc
  cases hu : P.underlying t with
  | none => rw [hu] at hc; cases hc
  | some dd =>
    rw [hu] at hc
    simp only [Go.execOp, hx n a s, Instr.typeAssert, Sem.run_bind, run_und hu, Result.andThen_ok]
    cases dd <;> first | (cases hc; done) | simp
theorem OpP.assertNone {t t' : TypeId} {x : Operand} {z : Value} [k : ZeroT P t z] (hc : concB P t = true) (hx : Ev L x .nilIface) : OpP P w0 L M ⟨d, .typeAssert x t' t true, T, p, af, g⟩ (.tuple #[z, .bool false]) := fun n a w h s _ _ => by
  unfold concB at hc
  cases hu : P.underlying t with
  | none => rw [hu] at hc; cases hc
  | some dd =>
    rw [hu] at hc
    simp only [Go.execOp, hx n a s, Instr.typeAssert, Sem.run_bind, run_und hu, Result.andThen_ok]
    cases dd <;> first | (cases hc; done) | simp [k.run]
variable {ops : Array Oper} {Q : Exit → Act → List Frame → World → Prop} {i : Nat} {rest : List Nat} {a : Act} {cs : List Frame} {w : World} {o : Oper}
theorem wpS_pure {v : Value} (ho : ops[i]? = some o) (hg : o.guard = none) (hr : (execOp a.eval o).run P w = .ok (.value v) w) (k : wpOpsS P ops Q rest (a.put o.dst v) cs w) : wpOpsS P ops Q (i :: rest) a cs w := by
  simp only [wpOpsS, ho]
  rw [if_pos (by simp [Region.wanted, hg]), hr]
  exact k
theorem wpS_recoverSome {v : Value} {cs' : List Frame} (ho : ops[i]? = some o) (hg : o.guard = none) (hr : (execOp a.eval o).run P w = .ok .recover w) (hc : recoverD cs = some (v, cs')) (k : wpOpsS P ops Q rest (a.put o.dst v) cs' w) : wpOpsS P ops Q (i :: rest) a cs w := by
  simp only [wpOpsS, ho]
  rw [if_pos (by simp [Region.wanted, hg]), hr]
  simp only [hc]
  exact k
theorem wpS_recoverNone (ho : ops[i]? = some o) (hg : o.guard = none) (hr : (execOp a.eval o).run P w = .ok .recover w) (hc : recoverD cs = none) (k : wpOpsS P ops Q rest (a.put o.dst .nilIface) cs w) : wpOpsS P ops Q (i :: rest) a cs w := by
  simp only [wpOpsS, ho]
  rw [if_pos (by simp [Region.wanted, hg]), hr]
  simp only [hc]
  exact k
theorem wpS_calls {f : FuncId} {args : Array Value} (ho : ops[i]? = some o) (hg : o.guard = none) (hr : (execOp a.eval o).run P w = .ok (.enter f args) w) (k : Calls P f args w fun e w' => ∃ v, e = .returned v ∧ wpOpsS P ops Q rest (a.put o.dst v) cs w') : wpOpsS P ops Q (i :: rest) a cs w := by
  simp only [wpOpsS, ho]
  rw [if_pos (by simp [Region.wanted, hg]), hr]
  simp only [Oper.upon]
  refine k.mono ?_
  rintro e w' ⟨v, rfl, h⟩
  exact h
end
theorem caught_none (w0 : World) (x : Value) : Spec Tryz.prog w0 49 #[x, .nilIface] [] (Is (.tuple #[])) := by
  refine Spec.enter (args := [_, _]) Tryz.func49 rfl rfl rfl (fun F => ?_)
  refine kAutoB ?_
  apply RL.pur; (apply OpP.assertNone; kernel_rfl; exact kEv); exact rfl
  refine kAutoB ?_
  (apply RL.alloc; exact rfl; exact rfl; intro b4)
  (apply RL.storeA; exact kEv; exact kEv; exact kTake; exact rfl; exact rfl; exact rfl)
  refine kAutoB ?_
  exact XJ.end0 rfl [] (by exact kGives) ⟨rfl, rfl⟩
theorem caught_some (w0 : World) (b o T : Nat) (cs : List Value) (e : Int) (ho : Nat.blt o cs.length = true) : Spec Tryz.prog w0 49 #[.pointer (some ⟨b, o, none⟩), .iface 158 (.agg #[.int .i64 e])] [cel b T cs] (Ret (fun v N => v = .tuple #[] ∧ N = [cel b T (setSeg cs [.int .i64 e] o)]) noP) := by
  refine Spec.enter (args := [_, _]) Tryz.func49 rfl rfl rfl (fun F => ?_)
  refine kAutoB ?_
  apply RL.pur; (apply OpP.assertSome; kernel_rfl; exact kEv); exact rfl
  refine kAutoB ?_
  (apply RL.alloc; exact rfl; exact rfl; intro b4)
  (apply RL.storeA; exact kEv; exact kEv; exact kTake; exact rfl; exact rfl; exact rfl)
  refine kAutoB ?_
  (apply RL.store; exact kEv; exact kEv; exact Takes.there (Takes.here _ _); exact rfl; exact rfl; exact ho)
  refine kAutoB ?_
  exact XJ.end0 rfl [_] (by exact kGives) ⟨rfl, rfl⟩
section
attribute [local semireducible] Takes Gives Ev XJ CJ RL Spec pt ro OpP OpS HasAt
variable {P : Program} {w0 : World} {n : Nat} {ops : Array Oper} {Q : Exit → Act → List Frame → World → Prop} {L : Env} {M : List HProp} {i : Nat} {rest : List Nat} {op : Op} {T : TypeId} {p : String} {af : Array Edge} {d : Nat} {cs : List Frame} {w : World} {h : Frag} {a : Act}
theorem CallsD.enter {f : FuncId} {fn : Func} {id : Nat} {args : List Value} {u : FrameMode} {R : Ending → FrameMode → World → Prop} (hf : P.funcs[f]? = some fn) (hb : fn.body = some (.region id ops false)) (hn : fn.ntmps = n) (hle : Nat.ble args.length n = true) (l : List Nat) (hl : List.range ops.size = l)
    (k : ∀ c₀ cs a Q, Q = bodyPostS P fn c₀ cs R → St n (argsEnv 0 args) a → c₀.mode = u → wpOpsS P ops Q l a (c₀ :: cs) w) : CallsD P f args.toArray u w R := by
  refine callsD_of_wpS hf hb ?_
  intro c₀ cs hu
  refine wpS_region ?_
  have hle' : args.length ≤ n := by simpa [Nat.ble_eq] using hle
  have hst := St.enter args (n - args.length) (argsEnv 0 args) (fun t v e => by have := argsEnv_get args 0 t v e; simpa using this.2)
  rw [show args.length + (n - args.length) = n by omega] at hst
  have : args.toArray.size = args.length := by simp
  rw [hn, this, hl]
  exact k c₀ cs _ _ rfl hst hu
theorem wpS_pureL {v : Value} (ho : ops[i]? = some ⟨some d, op, T, p, af, none⟩) (hp : OpP P w0 L M ⟨some d, op, T, p, af, none⟩ v) (hd : Nat.blt d n = true) (hs : St n L a) (m : star M h) (sa : Go.Proofs.YtgmapenlgammfaaGreatDoor.Sat w0 w h) (k : ∀ a, St n ((d, v) :: L) a → wpOpsS P ops Q rest a cs w) : wpOpsS P ops Q (i :: rest) a cs w :=
  wpS_pure ho rfl (hp n a w h hs m sa) (k _ (hs.put v hd))
theorem wpS_recN {ts : Array TypeId} {xs : Array Operand} (ho : ops[i]? = some ⟨some d, .call { callee := .builtin .recover, args := xs, argTypes := ts }, T, p, af, none⟩) (hd : Nat.blt d n = true) (hs : St n L a) (hc : recoverD cs = none) (k : ∀ a, St n ((d, .nilIface) :: L) a → wpOpsS P ops Q rest a cs w) : wpOpsS P ops Q (i :: rest) a cs w :=
  wpS_recoverNone ho rfl (by simp [Go.execOp, resolve, invoke, builtin]) hc (k _ (hs.put .nilIface hd))
theorem wpS_recS {ts : Array TypeId} {xs : Array Operand} {v : Value} {cs' : List Frame} (ho : ops[i]? = some ⟨some d, .call { callee := .builtin .recover, args := xs, argTypes := ts }, T, p, af, none⟩) (hd : Nat.blt d n = true) (hs : St n L a) (hc : recoverD cs = some (v, cs')) (k : ∀ a, St n ((d, v) :: L) a → wpOpsS P ops Q rest a cs' w) : wpOpsS P ops Q (i :: rest) a cs w :=
  wpS_recoverSome ho rfl (by simp [Go.execOp, resolve, invoke, builtin]) hc (k _ (hs.put v hd))
theorem wpS_callL {f : Operand} {k' : FuncId} {first cap : List Value} {xs : List Operand} {vs : List Value} {ts : Array TypeId} {K : Value → List HProp → Prop} {pre M' : List HProp}
    (ho : ops[i]? = some ⟨some d, .call { callee := .value f, args := xs.toArray, argTypes := ts }, T, p, af, none⟩) (hf : Ev L f (.func (.func k') first.toArray cap.toArray)) (c : CallT P k') (hx : EvL L xs vs) (hm : Takes M pre M') (hsp : Spec P w0 k' (first ++ vs ++ cap).toArray pre (Ret K noP))
    (hd : Nat.blt d n = true) (hs : St n L a) (m : star M h) (sa : Go.Proofs.YtgmapenlgammfaaGreatDoor.Sat w0 w h) (k : ∀ v N a w' h', K v N → St n ((d, v) :: L) a → star (N ++ M') h' → Go.Proofs.YtgmapenlgammfaaGreatDoor.Sat w0 w' h' → wpOpsS P ops Q rest a cs w') : wpOpsS P ops Q (i :: rest) a cs w := by
  refine wpS_calls ho rfl (f := k') (args := (first ++ vs ++ cap).toArray) (w := w) (by simp [Go.execOp, resolve, Deferred.ofValue, hf n a hs, invoke, c.run, hx.map hs]) ?_
  refine (hsp M' w h (hm h m) sa).mono ?_
  rintro e w' ⟨N, h', r, m', s'⟩
  cases e with
  | returned v => exact ⟨v, rfl, k v N _ w' h' r (hs.put v hd) m' s'⟩
  | panicked c => exact r.elim
  | outgrown => exact r.elim
theorem defS_end {fn : Func} {c₀ c₁ : Frame} {cs : List Frame} {u' : FrameMode} {M1 : List HProp} (hr : fn.results = #[]) (hs : St n L a) (m : star M1 h) (sa : Go.Proofs.YtgmapenlgammfaaGreatDoor.Sat w0 w h) (hu : settle u' = .returning) (hc : c₁ = { c₀ with mode := u' }) :
    wpOpsS P ops (bodyPostS P fn c₀ cs fun e u' w' => (∃ v, e = .returned v) ∧ settle u' = .returning ∧ ∃ h', star M1 h' ∧ Go.Proofs.YtgmapenlgammfaaGreatDoor.Sat w0 w' h') [] a (c₁ :: cs) w := by
  subst hc
  exact ⟨hs.df, u', rfl, .tuple #[], results_none hr _ _ _, ⟨_, rfl⟩, hu, h, m, sa⟩
theorem rec_none {c₀ : Frame} {cs : List Frame} (hu : c₀.mode = .returning) : recoverD (c₀ :: cs) = none := by simp [recoverD, hu]
theorem rec_some {c₀ : Frame} {cs : List Frame} {v : Value} (hu : c₀.mode = .panicking [{ v := v, recovered := false }]) : recoverD (c₀ :: cs) = some (v, { c₀ with mode := .panicking [{ v := v, recovered := true }] } :: cs) := by simp [recoverD, hu]
theorem settle_rec {v : Value} : settle (.panicking [{ v := v, recovered := true }]) = .returning := by simp [settle]
theorem mode_same {c₀ : Frame} (hu : c₀.mode = .returning) : c₀ = { c₀ with mode := .returning } := by cases c₀; simp at hu; simp [hu]
/-- A closure that hands what it recovered to a function. -/
theorem DefS.two {f k' : FuncId} {fn : Func} {id : Nat} {x v : Value} {u u' : FrameMode} {T1 T2 : TypeId} {p1 p2 : String} {a1 a2 : Array Edge} {ts1 ts2 : Array TypeId} {pre M1 M' : List HProp} {K : Value → List HProp → Prop}
    (hf : P.funcs[f]? = some fn) (hb : fn.body = some (.region id #[⟨some 1, .call { callee := .builtin .recover, args := #[], argTypes := ts1 }, T1, p1, a1, none⟩, ⟨some 2, .call { callee := .value (.func k'), args := #[.tmp 0, .tmp 1], argTypes := ts2 }, T2, p2, a2, none⟩] false)) (hn : fn.ntmps = 3) (hr : fn.results = #[]) (c : CallT P k')
    (hu : (u = .returning ∧ v = .nilIface ∧ u' = .returning) ∨ (u = .panicking [{ v := v, recovered := false }] ∧ u' = .panicking [{ v := v, recovered := true }])) (hm : Takes M pre M') (hs : Spec P w0 k' [x, v].toArray pre (Ret K noP)) (hk : ∀ y N, K y N → N ++ M' = M1) : DefS P w0 f [x].toArray u M M1 := by
  intro w h m sa
  refine CallsD.enter hf hb hn rfl [0, 1] rfl ?_
  intro c₀ cs a Q hQ hst hmode
  have key : ∀ cs1 a, St 3 [(1, v), (0, x)] a → cs1 = { c₀ with mode := u' } :: cs → settle u' = .returning → wpOpsS P #[⟨some 1, .call { callee := .builtin .recover, args := #[], argTypes := ts1 }, T1, p1, a1, none⟩, ⟨some 2, .call { callee := .value (.func k'), args := #[.tmp 0, .tmp 1], argTypes := ts2 }, T2, p2, a2, none⟩] Q [1] a cs1 w := by
    intro cs1 a hst e1 e2
    refine wpS_callL (i := 1) (rest := []) (M := M) (L := [(1, v), (0, x)]) (xs := [.tmp 0, .tmp 1]) (vs := [x, v]) (first := []) (cap := []) rfl Ev.func c (.cons (Ev.tmp rfl) (.cons (Ev.tmp rfl) .nil)) hm hs rfl hst m sa ?_
    intro y N a w' h' hK hst m sa
    subst hQ e1
    exact defS_end hr hst (by rw [← hk y N hK]; exact m) sa e2 rfl
  rcases hu with ⟨rfl, rfl, rfl⟩ | ⟨rfl, rfl⟩
  · exact wpS_recN (i := 0) (rest := [1]) (L := [(0, x)]) rfl rfl hst (rec_none hmode) (fun a hst => key _ a hst (by rw [← mode_same hmode]) rfl)
  · exact wpS_recS (i := 0) (rest := [1]) (L := [(0, x)]) rfl rfl hst (rec_some hmode) (fun a hst => key _ a hst rfl settle_rec)
theorem DefS.three {f k' : FuncId} {fn : Func} {id : Nat} {S fl off FT b : Nat} [kf : FldT P S fl off FT] {v : Value} {u u' : FrameMode} {T0 T1 T2 : TypeId} {p0 p1 p2 : String} {a0 a1 a2 : Array Edge} {ts1 ts2 : Array TypeId} {pre M1 M' : List HProp} {K : Value → List HProp → Prop}
    (hf : P.funcs[f]? = some fn) (hb : fn.body = some (.region id #[⟨some 1, .fieldAddr S (.tmp 0) fl, T0, p0, a0, none⟩, ⟨some 2, .call { callee := .builtin .recover, args := #[], argTypes := ts1 }, T1, p1, a1, none⟩, ⟨some 3, .call { callee := .value (.func k'), args := #[.tmp 1, .tmp 2], argTypes := ts2 }, T2, p2, a2, none⟩] false)) (hn : fn.ntmps = 4) (hr : fn.results = #[]) (c : CallT P k')
    (hu : (u = .returning ∧ v = .nilIface ∧ u' = .returning) ∨ (u = .panicking [{ v := v, recovered := false }] ∧ u' = .panicking [{ v := v, recovered := true }])) (hm : Takes M pre M') (hs : Spec P w0 k' [.pointer (some ⟨b, 0 + off, none⟩), v].toArray pre (Ret K noP)) (hk : ∀ y N, K y N → N ++ M' = M1) : DefS P w0 f [Value.pointer (some ⟨b, 0, none⟩)].toArray u M M1 := by
  intro w h m sa
  refine CallsD.enter hf hb hn rfl [0, 1, 2] rfl ?_
  intro c₀ cs a Q hQ hst hmode
  refine wpS_pureL (i := 0) (rest := [1, 2]) (L := [(0, .pointer (some ⟨b, 0, none⟩))]) (M := M) rfl (OpP.fieldAddr (Ev.tmp rfl)) rfl hst m sa (fun a hst => ?_)
  have key : ∀ cs1 a, St 4 [(2, v), (1, .pointer (some ⟨b, 0 + off, none⟩)), (0, .pointer (some ⟨b, 0, none⟩))] a → cs1 = { c₀ with mode := u' } :: cs → settle u' = .returning → wpOpsS P #[⟨some 1, .fieldAddr S (.tmp 0) fl, T0, p0, a0, none⟩, ⟨some 2, .call { callee := .builtin .recover, args := #[], argTypes := ts1 }, T1, p1, a1, none⟩, ⟨some 3, .call { callee := .value (.func k'), args := #[.tmp 1, .tmp 2], argTypes := ts2 }, T2, p2, a2, none⟩] Q [2] a cs1 w := by
    intro cs1 a hst e1 e2
    refine wpS_callL (i := 2) (rest := []) (M := M) (L := [(2, v), (1, .pointer (some ⟨b, 0 + off, none⟩)), (0, .pointer (some ⟨b, 0, none⟩))]) (xs := [.tmp 1, .tmp 2]) (vs := [.pointer (some ⟨b, 0 + off, none⟩), v]) (first := []) (cap := []) rfl Ev.func c (.cons (Ev.tmp rfl) (.cons (Ev.tmp rfl) .nil)) hm hs rfl hst m sa ?_
    intro y N a w' h' hK hst m sa
    subst hQ e1
    exact defS_end hr hst (by rw [← hk y N hK]; exact m) sa e2 rfl
  rcases hu with ⟨rfl, rfl, rfl⟩ | ⟨rfl, rfl⟩
  · exact wpS_recN (i := 1) (rest := [2]) rfl rfl hst (rec_none hmode) (fun a hst => key _ a hst (by rw [← mode_same hmode]) rfl)
  · exact wpS_recS (i := 1) (rest := [2]) rfl rfl hst (rec_some hmode) (fun a hst => key _ a hst rfl settle_rec)
end
theorem job1_none (w0 : World) (b : Nat) (M : List HProp) : DefS Tryz.prog w0 48 [Value.pointer (some ⟨b, 0, none⟩)].toArray .returning M M :=
  DefS.three Tryz.func48 rfl rfl rfl inferInstance (.inl ⟨rfl, rfl, rfl⟩) (Takes.nil _) (caught_none w0 _) (fun _ _ h => by obtain ⟨_, rfl⟩ := h; rfl)
theorem job1_some (w0 : World) (b T : Nat) (e : Int) (x0 x1 x2 x3 x4 x5 : Value) (Z : List HProp) : DefS Tryz.prog w0 48 [Value.pointer (some ⟨b, 0, none⟩)].toArray (.panicking (stopV e)) (cel b T [x0, x1, x2, x3, x4, x5] :: Z) (cel b T [x0, x1, x2, x3, x4, .int .i64 e] :: Z) :=
  DefS.three Tryz.func48 rfl rfl rfl inferInstance (.inr ⟨rfl, rfl⟩) (Takes.here _ _) (caught_some w0 b 5 T [x0, x1, x2, x3, x4, x5] e rfl) (fun _ _ h => by obtain ⟨_, rfl⟩ := h; rfl)
theorem expr1_none (w0 : World) (b : Nat) (M : List HProp) : DefS Tryz.prog w0 69 [Value.pointer (some ⟨b, 0, none⟩)].toArray .returning M M :=
  DefS.two Tryz.func69 rfl rfl rfl inferInstance (.inl ⟨rfl, rfl, rfl⟩) (Takes.nil _) (caught_none w0 _) (fun _ _ h => by obtain ⟨_, rfl⟩ := h; rfl)
theorem expr1_some (w0 : World) (b T : Nat) (e : Int) (x : Value) (Z : List HProp) : DefS Tryz.prog w0 69 [Value.pointer (some ⟨b, 0, none⟩)].toArray (.panicking (stopV e)) (cel b T [x] :: Z) (cel b T [.int .i64 e] :: Z) :=
  DefS.two Tryz.func69 rfl rfl rfl inferInstance (.inr ⟨rfl, rfl⟩) (Takes.here _ _) (caught_some w0 b 0 T [x] e rfl) (fun _ _ h => by obtain ⟨_, rfl⟩ := h; rfl)
end Go.Proofs.YtgmapenlgammfaaGreatDoor

/- The machine's small methods: step, receive. -/
namespace Go.Proofs.YtgmapenlgammfaaGreatDoor
open Go

theorem step_spec (w0 : World) {J : JP} {E : JE} {lens : List Nat} (k : JobF w0 J E lens) {s : JS} (o : OKJ E lens s) (A : Option Addr) (c : Nat) :
    Spec Tryz.prog w0 119 #[.pointer (some ⟨J.bm, 0, none⟩)] (jobM J E s A c) (JRes J E (stepJ E s)) := by
  have hst := o.steps_le k
  refine Spec.enter (args := [_]) Tryz.func119 rfl rfl rfl (fun F => ?_)
  refine kAutoB ?_
  refine CJ.gives (M' := rcel J.bm 114 (machV J E) :: cel J.br 37 (resV J s A c 0) :: rmp Value.string J.ra (arrV J E) :: mp Value.string J.rv (fun nm => (s.vars nm).map intV) :: row 106 2 (.slice A s.out.length c) s.out.length (outCells s.out) :: (innerM J.us s.cells ++ F)) (by exact kGives) ?_
  (refine CJ.draws mixed 12 [rcel J.bm 114 (machV J E), cel J.br 37 (resV J s A c 0)] (by exact kGives) (dom_of (by kernel_rfl)) ?_)
  ((first | refine kAjB 0 ?_ | refine kAjS 0 ?_); (first | refine kAjB 1 ?_ | refine kAjS 1 ?_); (first | refine kAjB 2 ?_ | refine kAjS 2 ?_); (first | refine kAjB 3 ?_ | refine kAjS 3 ?_); (first | refine kAjB 4 ?_ | refine kAjS 4 ?_); (first | refine kAjB 5 ?_ | refine kAjS 5 ?_); (first | refine kAjB 6 ?_ | refine kAjS 6 ?_); (first | refine kAjB 7 ?_ | refine kAjS 7 ?_); (first | refine kAjB 8 ?_ | refine kAjS 8 ?_); (first | refine kAjB 9 ?_ | refine kAjS 9 ?_); (first | refine kAjB 10 ?_ | refine kAjS 10 ?_); (first | refine kAjB 11 ?_ | refine kAjS 11 ?_))
  (refine AJ.done (by kernel_rfl) (by kernel_rfl) rfl (by kernel_rfl) ?_)
  refine kAutoB ?_
  cases hc : decide ((s.steps : Int) ≥ E.fuel)
  · have hc' := of_decide_eq_false hc
    have e : stepJ E s = ({ s with steps := s.steps + 1 }, none) := by unfold stepJ; rw [if_neg hc']
    refine kAutoB ?_
    rw [i64_succ s.steps (by omega)]
    (apply RL.store; exact kEv; exact kEv; exact kTake; exact rfl; exact rfl; exact rfl)
    refine kAutoB ?_
    refine XJ.end0 rfl (jobM J E (stepJ E s).1 A c) ?_ ?_
    · rw [e]
      exact kGives
    · rw [e]
      exact ⟨rfl, rfl, A, c, rfl⟩
  · have hc' := of_decide_eq_true hc
    have e : stepJ E s = (s, some 13) := by unfold stepJ; rw [if_pos hc']
    refine kAutoB ?_
    (apply RL.callE; exact kEv; exact inferInstance; exact kEvl; exact (fail_spec w0 13); exact rfl)
    · intro v hv
      cases hv
    · intro p hp
      simp at hp
      subst hp
      refine kAutoB ?_
      refine XJ.panics (jobM J E (stepJ E s).1 A c) ?_ ?_
      · rw [e]
        exact kGives
      · rw [e]
        exact ⟨13, rfl, rfl, A, c, rfl⟩
theorem getD_get {l : List Int} {i : Nat} (h : i < l.length) : l.getD i 0 = l[i] := by simp [List.getD_eq_getElem?_getD, h]
theorem receive_spec (w0 : World) {J : JP} {E : JE} {lens : List Nat} (k : JobF w0 J E lens) {s : JS} (o : OKJ E lens s) (A : Option Addr) (c : Nat) (X : List HProp) :
    Spec Tryz.prog w0 122 #[.pointer (some ⟨J.bm, 0, none⟩)] (jobM J E s A c ++ X) (GRes J E X (recvJ E s)) := by
  have hst := o.steps_le k
  have hrd := o.read
  have hil := k.inl
  obtain ⟨Ai, ci, hin, hci, hri⟩ := k.inV
  obtain ⟨bm, rv, ra, br, us, inV, mA, mS⟩ := J
  simp only at hin
  subst hin
  refine Spec.enter (args := [_]) Tryz.func122 rfl rfl rfl (fun F => ?_)
  rw [List.append_assoc]
  refine kAutoB ?_
  refine CJ.gives (M' := rcel bm 114 [.map (some rv), .map (some ra), .slice Ai E.inp.length ci, .int .i64 E.fuel, .pointer (some ⟨br, 0, none⟩)] :: cel br 37 (resV ⟨bm, rv, ra, br, us, .slice Ai E.inp.length ci, mA, mS⟩ s A c 0) :: rmp Value.string ra (arrV ⟨bm, rv, ra, br, us, .slice Ai E.inp.length ci, mA, mS⟩ E) :: mp Value.string rv (fun nm => (s.vars nm).map intV) :: row 106 2 (.slice A s.out.length c) s.out.length (outCells s.out) :: (innerM us s.cells ++ (X ++ F))) (by exact kGives) ?_
  (refine CJ.draws mixed 13 [rcel bm 114 [.map (some rv), .map (some ra), .slice Ai E.inp.length ci, .int .i64 E.fuel, .pointer (some ⟨br, 0, none⟩)], cel br 37 (resV ⟨bm, rv, ra, br, us, .slice Ai E.inp.length ci, mA, mS⟩ s A c 0)] (by exact kGives) (dom_of (by kernel_rfl)) ?_)
  ((first | refine kAjB 0 ?_ | refine kAjS 0 ?_); (first | refine kAjB 1 ?_ | refine kAjS 1 ?_); (first | refine kAjB 2 ?_ | refine kAjS 2 ?_); (first | refine kAjB 3 ?_ | refine kAjS 3 ?_); (first | refine kAjB 4 ?_ | refine kAjS 4 ?_); (first | refine kAjB 5 ?_ | refine kAjS 5 ?_); (first | refine kAjB 6 ?_ | refine kAjS 6 ?_); (first | refine kAjB 7 ?_ | refine kAjS 7 ?_); (first | refine kAjB 8 ?_ | refine kAjS 8 ?_); (first | refine kAjB 9 ?_ | refine kAjS 9 ?_); (first | refine kAjB 10 ?_ | refine kAjS 10 ?_); (first | refine kAjB 11 ?_ | refine kAjS 11 ?_); (first | refine kAjB 12 ?_ | refine kAjS 12 ?_))
  (refine AJ.done (by kernel_rfl) (by kernel_rfl) rfl (by kernel_rfl) ?_)
  refine kAutoB ?_
  refine CJ.cut (σ := Unit) (fun _ => True) (fun _ => [(0, .pointer (some ⟨bm, 0, none⟩)), (3, .int .i32 (E.inp.getD s.read 0))]) (fun _ => rcel bm 114 [.map (some rv), .map (some ra), .slice Ai E.inp.length ci, .int .i64 E.fuel, .pointer (some ⟨br, 0, none⟩)] :: cel br 37 (resV ⟨bm, rv, ra, br, us, .slice Ai E.inp.length ci, mA, mS⟩ s A c 0) :: rmp Value.string ra (arrV ⟨bm, rv, ra, br, us, .slice Ai E.inp.length ci, mA, mS⟩ E) :: mp Value.string rv (fun nm => (s.vars nm).map intV) :: row 106 2 (.slice A s.out.length c) s.out.length (outCells s.out) :: (innerM us s.cells ++ (X ++ F))) ?_ ?_
  · cases hlt : decide ((s.read : Int) < (E.inp.length : Int))
    · have hge : E.inp.length ≤ s.read := by have := of_decide_eq_false hlt; omega
      refine kAutoB ?_
      have e : E.inp.getD s.read 0 = 0 := by rw [List.getD_eq_getElem?_getD, List.getElem?_eq_none hge]; rfl
      rw [e]
      exact XJ.meet () trivial (by exact kEsub) (Gives.refl _)
    · have hlt' : s.read < E.inp.length := by have := of_decide_eq_true hlt; omega
      obtain ⟨b, q, e1, e2, hb⟩ := hri.at_ s.read (by simpa using hlt')
      subst e1
      simp only [List.getElem_map] at hb
      refine kAutoB ?_
      (refine CJ.draws mixed 13 [rcel bm 114 [.map (some rv), .map (some ra), .slice (some ⟨b, q, none⟩) E.inp.length ci, .int .i64 E.fuel, .pointer (some ⟨br, 0, none⟩)], cel br 37 _] (by exact kGives) (dom_of (by kernel_rfl)) ?_)
      ((first | refine kAjB 0 ?_ | refine kAjS 0 ?_); (first | refine kAjB 1 ?_ | refine kAjS 1 ?_); (first | refine kAjB 2 ?_ | refine kAjS 2 ?_); (first | refine kAjB 3 ?_ | refine kAjS 3 ?_); (first | refine kAjB 4 ?_ | refine kAjS 4 ?_); (first | refine kAjB 5 ?_ | refine kAjS 5 ?_); (first | refine kAjB 6 ?_ | refine kAjS 6 ?_); (first | refine kAjB 7 ?_ | refine kAjS 7 ?_); (first | refine kAjB 8 ?_ | refine kAjS 8 ?_); (first | refine kAjB 9 ?_ | refine kAjS 9 ?_); (first | refine kAjB 10 ?_ | refine kAjS 10 ?_))
      (apply AJ.pur (i := 11); exact rfl; exact rfl; exact rfl; exact rfl; exact rfl; exact rfl; exact rfl; exact rfl; exact rfl; (apply OpP.indexAddr; exact kEv; exact kEv; exact hlt'))
      (apply AJ.pur (i := 12); exact rfl; exact rfl; exact rfl; exact rfl; exact rfl; exact rfl; exact rfl; exact rfl; exact rfl; (apply OpP.load; exact kEv; exact HasAt.base hb))
      (refine AJ.tail (by kernel_rfl) (by kernel_rfl) rfl (by kernel_rfl) (by kernel_rfl) (by kernel_rfl) ?_)
      rw [getD_get hlt']
      refine kAutoB ?_
      exact XJ.meet () trivial (by exact kEsub) (Gives.refl _)
  rintro _ -
  refine kAutoB ?_
  rw [i64_succ s.read (by omega)]
  (apply RL.store; exact kEv; exact kEv; exact kTake; exact rfl; exact rfl; exact rfl)
  refine kAutoB ?_
  refine XJ.ret1 rfl rfl (jobM ⟨bm, rv, ra, br, us, .slice Ai E.inp.length ci, mA, mS⟩ E (recvJ E s).1 A c ++ X) ?_ ?_
  · rw [List.append_assoc]
    exact kGives
  · exact ⟨_, rfl, rfl, A, c, rfl⟩
end Go.Proofs.YtgmapenlgammfaaGreatDoor

/- The machine's store: a value into a variable or an array's element. -/
namespace Go.Proofs.YtgmapenlgammfaaGreatDoor
open Go

theorem array_own (w0 : World) {J : JP} {E : JE} {s : JS} (A : Option Addr) (c : Nat) (name : ByteArray) :
    Spec Tryz.prog w0 100 #[.agg #[.map (some J.rv), .map (some J.ra)], .string name] (jobM J E s A c)
      (Ret (fun v N => (match arrV J E name with | none => Except.error (stopV 6) | some v => .ok v) = .ok v ∧ N = jobM J E s A c) (fun p N => (match arrV J E name with | none => Except.error (stopV 6) | some v => .ok v) = .error p ∧ N = jobM J E s A c)) :=
  Spec.rebaseE fun w h m sa => array_spec w J.rv J.ra (arrV J E) (rmp_mapB (M := jobM J E s A c) (by unfold jobM; exact kTake) m sa) name
theorem vars_set (s : JS) (nm : ByteArray) (v : Int) : upd (fun n => (s.vars n).map intV) nm (.int .i32 v) = fun n => ((setVar s nm v).vars n).map intV := by
  funext n
  unfold upd setVar updI
  by_cases h : n = nm
  · simp [h, intV]
  · simp [h]
theorem idx_nat {i : Int} {n : Nat} (hi : I32 i) (h : idxB i n = true) : IntKind.i64.wrap i = ((i.toNat : Nat) : Int) ∧ i.toNat < n := by
  have hw : IntKind.i64.wrap i = ((i.toNat : Nat) : Int) := by
    unfold I32 at hi
    unfold idxB at h
    simp at h
    simp only [IntKind.wrap, IntKind.signed, IntKind.bits]
    simp
    omega
  refine ⟨hw, ?_⟩
  unfold idxB at h
  simp only [Bool.and_eq_true, Bool.not_eq_true', decide_eq_false_iff_not] at h
  omega
theorem storeJ_var {E : JE} {num : Int} {nm : ByteArray} {kids : List Node} {early : Bool} {g : JS → JS × Except Int Int} {s : JS} : storeJ E (.mk 2 num nm kids) early g s = (match g s with | (s1, .error e) => (s1, some e) | (s1, .ok v) => (setVar s1 nm v, none)) := if_pos rfl
theorem storeJ_item {E : JE} {kd num : Int} {nm : ByteArray} {q : Node} {early : Bool} {g : JS → JS × Except Int Int} {s : JS} (h2 : ¬ kd = 2) : storeJ E (.mk kd num nm [q]) early g s = (match E.ix nm with
      | none => (s, some 6)
      | some a => match evJ E s q with
        | .error e => (s, some e)
        | .ok i =>
          if early then match g s with
            | (s1, .error e) => (s1, some e)
            | (s1, .ok v) => if idxB i (s.cells.getD a []).length then (setCell s1 a i v, none) else (s1, some 11)
          else if idxB i (s.cells.getD a []).length then match g s with
            | (s1, .error e) => (s1, some e)
            | (s1, .ok v) => (setCell s1 a i v, none)
          else (s, some 11)) := if_neg h2
theorem store_spec (w0 : World) {J : JP} {E : JE} {lens : List Nat} (k : JobF w0 J E lens) {s : JS} (o : OKJ E lens s) (A : Option Addr) (c : Nat) (X : List HProp)
    (place : Node) (pcs : List Value) (hR : NodeR w0 place pcs) (hsz : place.size < 4611686018427387904) (hp : place.kind = 2 ∨ place.kind = 3 ∧ ∃ a, place.kids = [a] ∧ isB a 1 = true)
    (early : Bool) (g : JS → JS × Except Int Int) (f : FuncId) (first cap : List Value) (hf : CallT Tryz.prog f) (hc1 : (g s).1.cells = s.cells)
    (hget : Spec Tryz.prog w0 f (first ++ [] ++ cap).toArray (jobM J E s A c ++ X) (GRes J E X (g s))) :
    Spec Tryz.prog w0 120 #[.pointer (some ⟨J.bm, 0, none⟩), .agg pcs.toArray, .bool early, .func (.func f) first.toArray cap.toArray] (jobM J E s A c ++ X) (SRes J E X (storeJ E place early g s)) := by
  obtain ⟨B, cp, rfl, hcap, hN⟩ := hR.kids
  obtain ⟨kd, num, nm, kids⟩ := place
  simp only [Node.kind, Node.num, Node.name, Node.kids] at *
  refine Spec.enter (args := [_, _, _, _]) Tryz.func120 rfl rfl rfl (fun F => ?_)
  refine kAutoB ?_
  (apply RL.boxR; exact kEv; exact rfl; intro b5)
  refine kAutoB ?_
  refine CJ.gives (M' := jobM J E s A c ++ (X ++ (rcel b5 50 [.int .u8 kd, .int .i64 num, .string nm, .slice B kids.length cp] :: F))) (by
    rw [List.append_assoc]
    unfold Gives
    intro h m
    refine star.perm ?_ m
    rw [← List.append_assoc, ← List.append_assoc]
    exact List.perm_middle.symm) ?_
  (refine CJ.cond (by exact kEv) (fun h2 => ?_) (fun h2 => ?_))
  · obtain rfl : kd = 2 := by simpa using h2
    rw [storeJ_var]
    generalize g s = r at *
    obtain ⟨s1, x⟩ := r
    simp only at hc1
    refine kAutoB ?_
    (refine CJ.draws mixed 9 [rcel b5 50 _, rcel J.bm 114 (machV J E)] (Gives.cons (Takes.appR _ (Takes.appR _ (Takes.here _ _))) (Gives.cons (Takes.here _ _) (Gives.nil _))) (dom_of (by kernel_rfl)) ?_)
    ((first | refine kAjB 0 ?_ | refine kAjS 0 ?_); (first | refine kAjB 1 ?_ | refine kAjS 1 ?_); (first | refine kAjB 2 ?_ | refine kAjS 2 ?_); (first | refine kAjB 3 ?_ | refine kAjS 3 ?_); (first | refine kAjB 4 ?_ | refine kAjS 4 ?_); (first | refine kAjB 5 ?_ | refine kAjS 5 ?_); (first | refine kAjB 6 ?_ | refine kAjS 6 ?_); (first | refine kAjB 7 ?_ | refine kAjS 7 ?_))
    (refine AJ.loud1 (i := 8) (by kernel_rfl) (by kernel_rfl) rfl (by kernel_rfl) (by kernel_rfl) rfl rfl rfl rfl rfl rfl (OpS.call (by exact kEv) hf (by exact kEvl) Takes.assoc hget) ?_ ?_)
    · rintro _ _ ⟨N', ⟨v, hv, rfl, A', c', rfl⟩, rfl⟩
      simp only at hv
      subst hv
      refine ⟨by (repeat (first | exact Gives.refl _ | exact Gives.nil _ | (apply Gives.cons; (focus ((first | ((repeat (first | exact Takes.here _ _ | apply Takes.there)); done) | (apply Takes.appR; exact kTake; done) | (apply Takes.appR; apply Takes.appR; exact kTake; done))))) | apply Gives.drop)), ?_⟩
      (refine AJ.tail (by kernel_rfl) (by kernel_rfl) rfl (by kernel_rfl) (by kernel_rfl) (by kernel_rfl) ?_)
      rw [List.append_assoc]
      (apply RL.mapUpdate; exact kEv; exact kEv; exact kEv; exact kTake)
      refine kAutoB ?_
      rw [vars_set]
      refine XJ.ret0 rfl (jobM J E (setVar s1 nm v) A' c' ++ X) ?_ ⟨rfl, rfl, A', c', rfl⟩
      rw [List.append_assoc]
      exact Gives.trans (B := jobM J E (setVar s1 nm v) A' c' ++ (X ++ (rcel b5 50 [.int .u8 2, .int .i64 num, .string nm, .slice B kids.length cp] :: F))) (by exact kGives) (by
        rw [← List.append_assoc, ← List.append_assoc]
        exact Takes.drop2 _ _ _)
    · rintro p _ ⟨N', ⟨x, he, rfl, A', c', rfl⟩, rfl⟩
      simp only at he
      subst he
      refine kAutoB ?_
      refine XJ.panics (jobM J E s1 A' c' ++ X) ?_ ⟨x, rfl, rfl, A', c', rfl⟩
      exact Takes.drop2 _ _ _
  · have h2' : ¬ kd = 2 := by simpa using h2
    obtain ⟨hk3, q, rfl, hq⟩ : kd = 3 ∧ ∃ a, kids = [a] ∧ isB a 1 = true := by
      rcases hp with hp | hp
      · exact absurd hp h2'
      · exact hp
    obtain ⟨b1, o1, r1, e1, hb1, hrl1, hr1⟩ := hN.at_ 0 (by simp)
    subst e1
    simp only [List.getElem_cons_zero, Nat.zero_mul, Nat.add_zero] at hb1 hr1
    have hqs : q.size < (Node.mk kd num nm [q]).size := Node.size_kid (n := .mk kd num nm [q]) (by simp [Node.kids])
    have hev := eval_own w0 k o A c q r1 (by omega) hr1 hq
    have harr := array_own w0 (J := J) (E := E) (s := s) A c nm
    rw [storeJ_item h2']
    refine kAutoB ?_
    (refine CJ.draws mixed 17 [rcel b5 50 _, rcel J.bm 114 (machV J E)] (Gives.cons (Takes.appR _ (Takes.appR _ (Takes.here _ _))) (Gives.cons (Takes.here _ _) (Gives.nil _))) (dom_of (by kernel_rfl)) ?_)
    ((first | refine kAjB 0 ?_ | refine kAjS 0 ?_); (first | refine kAjB 1 ?_ | refine kAjS 1 ?_); (first | refine kAjB 2 ?_ | refine kAjS 2 ?_); (first | refine kAjB 3 ?_ | refine kAjS 3 ?_); (first | refine kAjB 4 ?_ | refine kAjS 4 ?_); (first | refine kAjB 5 ?_ | refine kAjS 5 ?_))
    ((first | refine kAjB 7 ?_ | refine kAjS 7 ?_); (first | refine kAjB 8 ?_ | refine kAjS 8 ?_); (first | refine kAjB 9 ?_ | refine kAjS 9 ?_); (first | refine kAjB 10 ?_ | refine kAjS 10 ?_); (first | refine kAjB 11 ?_ | refine kAjS 11 ?_); (first | refine kAjB 12 ?_ | refine kAjS 12 ?_))
    (apply AJ.pur (i := 13); exact rfl; exact rfl; exact rfl; exact rfl; exact rfl; exact rfl; exact rfl; exact rfl; exact rfl; (exact OpP.indexAddrC 0 (by exact kEv) rfl (by simp) o1 (by omega)))
    (apply AJ.pur (i := 14); exact rfl; exact rfl; exact rfl; exact rfl; exact rfl; exact rfl; exact rfl; exact rfl; exact rfl; (apply OpP.loadA; exact kEv; exact HasAt.base hb1; exact hrl1))
    (refine AJ.loud1 (i := 6) (by kernel_rfl) (by kernel_rfl) rfl (by kernel_rfl) (by kernel_rfl) rfl rfl rfl rfl rfl rfl (OpS.callO harr (by exact kEv) inferInstance (by exact kEvl) (by exact rfl) (Takes.app _ _)) ?_ ?_)
    · rintro v _ ⟨N', ⟨hv, rfl⟩, rfl⟩
      refine ⟨by (repeat (first | exact Gives.refl _ | exact Gives.nil _ | (apply Gives.cons; (focus ((first | ((repeat (first | exact Takes.here _ _ | apply Takes.there)); done) | (apply Takes.appR; exact kTake; done) | (apply Takes.appR; apply Takes.appR; exact kTake; done))))) | apply Gives.drop)), ?_⟩
      cases hix : E.ix nm with
      | none => unfold arrV at hv; rw [hix] at hv; cases hv
      | some a =>
        have hv' : v = J.us.getD a undef := by unfold arrV at hv; rw [hix] at hv; injection hv with hv; exact hv.symm
        have ha := k.ix nm a hix
        have hul := k.us
        have hcl := o.len
        have hua : J.us[a]? = some (J.us.getD a undef) := by simp [List.getD_eq_getElem?_getD, show a < J.us.length by omega]
        have hca : s.cells[a]? = some (s.cells.getD a []) := by simp [List.getD_eq_getElem?_getD, show a < s.cells.length by omega]
        rw [← hv'] at hua
        clear hv
        simp only
        (refine AJ.loud1 (i := 15) (by kernel_rfl) (by kernel_rfl) rfl (by kernel_rfl) (by kernel_rfl) rfl rfl rfl rfl rfl rfl (OpS.callO hev (by exact kEv) inferInstance (by exact kEvl) (by exact rfl) (Takes.app _ _)) ?_ ?_)
        · rintro x _ ⟨N', ⟨hx, rfl⟩, rfl⟩
          refine ⟨by (repeat (first | exact Gives.refl _ | exact Gives.nil _ | (apply Gives.cons; (focus ((first | ((repeat (first | exact Takes.here _ _ | apply Takes.there)); done) | (apply Takes.appR; exact kTake; done) | (apply Takes.appR; apply Takes.appR; exact kTake; done))))) | apply Gives.drop)), ?_⟩
          obtain ⟨i, hi, rfl⟩ := resE_ok hx
          rw [hi]
          simp only
          have hri : I32 i := o.ev hi
          refine AJ.fact (p := ∃ (A1 : Option Addr) (c1 : Nat), v = .slice A1 (s.cells.getD a []).length c1) (fun h m => row_slice (job_take hua hca _) m) ?_
          rintro ⟨A1, c1, rfl⟩
          ((first | refine kAjB 16 ?_ | refine kAjS 16 ?_))
          (refine AJ.tail (by kernel_rfl) (by kernel_rfl) rfl (by kernel_rfl) (by kernel_rfl) (by kernel_rfl) ?_)
          refine kAutoB ?_
          have hidx := index_spec16 w0 i A1 (s.cells.getD a []).length c1
          have hfin : ∀ (s1 : JS) (A' : Option Addr) (c' : Nat), s1.cells = s.cells → Takes (jobM J E s1 A' c' ++ (X ++ (rcel b5 50 [.int .u8 kd, .int .i64 num, .string nm, .slice (some ⟨b1, o1, none⟩) [q].length cp] :: F))) [rowI (.slice A1 (s.cells.getD a []).length c1) (s.cells.getD a [])]
              (jobH J E s1 A' c' ++ (innerM (J.us.eraseIdx a) (s1.cells.eraseIdx a) ++ (X ++ (rcel b5 50 [.int .u8 kd, .int .i64 num, .string nm, .slice (some ⟨b1, o1, none⟩) [q].length cp] :: F)))) := fun s1 A' c' h1 => job_take hua (by rw [h1]; exact hca) _
          have hdrop : ∀ (s1 : JS) (A' : Option Addr) (c' : Nat), Gives (jobM J E s1 A' c' ++ (X ++ (rcel b5 50 [.int .u8 kd, .int .i64 num, .string nm, .slice (some ⟨b1, o1, none⟩) [q].length cp] :: F))) ((jobM J E s1 A' c' ++ X) ++ F) := by
            intro s1 A' c'
            rw [← List.append_assoc]
            exact Takes.drop2 _ _ _
          cases early
          · refine kAutoB ?_
            (apply RL.callE; exact kEv; exact inferInstance; exact kEvl; exact hidx; exact rfl)
            · intro v hv
              cases hib : idxB i (s.cells.getD a []).length with
              | false => rw [hib] at hv; cases hv
              | true =>
                rw [hib, if_pos rfl] at hv
                injection hv with hv
                subst hv
                obtain ⟨hw, hlt⟩ := idx_nat hri hib
                rw [hw]
                simp only [Bool.false_eq_true, if_false, if_true]
                generalize g s = r at *
                obtain ⟨s1, x⟩ := r
                simp only at hc1
                refine kAutoB ?_
                (apply RL.callKP; exact kEv; exact hf; exact kEvl; exact Takes.assoc; exact hget; exact rfl)
                · rintro _ _ ⟨v, hv, rfl, A', c', rfl⟩
                  simp only at hv
                  subst hv
                  rw [List.append_assoc]
                  refine kAutoB ?_
                  refine RL.fact (p := ∃ b2 : Nat, A1 = some ⟨b2, 0, none⟩) (fun h m => ?_) ?_
                  · obtain ⟨b2, c2, e2⟩ := row_addr (hfin s1 A' c' hc1) m (by omega)
                    simp only [Value.slice.injEq] at e2
                    exact ⟨b2, e2.1⟩
                  rintro ⟨b2, rfl⟩
                  apply RL.pur; (apply OpP.indexAddr; exact kEv; exact kEv; exact hlt); exact rfl
                  refine RL.rowSet (by exact kEv) (by exact kEv) rfl rfl (hfin s1 A' c' hc1) (by simpa using hlt) ?_
                  refine kAutoB ?_
                  refine XJ.end0 rfl (jobM J E (setCell s1 a i v) A' c' ++ X) ?_ ⟨rfl, rfl, A', c', rfl⟩
                  have hrow : row 21 1 (.slice (some ⟨b2, 0, none⟩) (s.cells.getD a []).length c1) (s.cells.getD a []).length (((s.cells.getD a []).map intV).set i.toNat (.int .i32 v)) = rowI (.slice (some ⟨b2, 0, none⟩) (s.cells.getD a []).length c1) ((s.cells.getD a []).set i.toNat v) := by
                    unfold rowI
                    rw [List.length_set, List.map_set]
                    rfl
                  refine Gives.trans (B := rowI (.slice (some ⟨b2, 0, none⟩) (s.cells.getD a []).length c1) ((s.cells.getD a []).set i.toNat v) :: (jobH J E s1 A' c' ++ (innerM (J.us.eraseIdx a) (s1.cells.eraseIdx a) ++ (X ++ (rcel b5 50 [.int .u8 kd, .int .i64 num, .string nm, .slice (some ⟨b1, o1, none⟩) [q].length cp] :: F))))) (by rw [← hrow, Nat.mul_one, Nat.zero_add]; exact Gives.refl _) ?_
                  refine (job_put ((s.cells.getD a []).set i.toNat v) hua (by rw [hc1]; omega) _).trans ?_
                  have hset : { s1 with cells := s1.cells.set a ((s.cells.getD a []).set i.toNat v) } = setCell s1 a i v := by unfold setCell; rw [hc1]
                  rw [hset]
                  exact hdrop (setCell s1 a i v) A' c'
                · rintro p _ ⟨x, he, rfl, A', c', rfl⟩
                  simp only at he
                  subst he
                  rw [List.append_assoc]
                  refine kAutoB ?_
                  exact XJ.panics (jobM J E s1 A' c' ++ X) (hdrop s1 A' c') ⟨x, rfl, rfl, A', c', rfl⟩
            · intro p hp'
              cases hib : idxB i (s.cells.getD a []).length with
              | true => rw [hib, if_pos rfl] at hp'; cases hp'
              | false =>
                rw [hib] at hp'
                simp at hp'
                subst hp'
                refine kAutoB ?_
                exact XJ.panics (jobM J E s A c ++ X) (hdrop s A c) ⟨11, rfl, rfl, A, c, rfl⟩
          · simp only [if_true]
            generalize g s = r at *
            obtain ⟨s1, x⟩ := r
            simp only at hc1
            refine kAutoB ?_
            (apply RL.callKP; exact kEv; exact hf; exact kEvl; exact Takes.assoc; exact hget; exact rfl)
            · rintro _ _ ⟨v, hv, rfl, A', c', rfl⟩
              simp only at hv
              subst hv
              rw [List.append_assoc]
              refine kAutoB ?_
              (apply RL.callE; exact kEv; exact inferInstance; exact kEvl; exact hidx; exact rfl)
              · intro u hu
                cases hib : idxB i (s.cells.getD a []).length with
                | false => rw [hib] at hu; cases hu
                | true =>
                  rw [hib, if_pos rfl] at hu
                  injection hu with hu
                  subst hu
                  obtain ⟨hw, hlt⟩ := idx_nat hri hib
                  rw [hw]
                  refine kAutoB ?_
                  refine RL.fact (p := ∃ b2 : Nat, A1 = some ⟨b2, 0, none⟩) (fun h m => ?_) ?_
                  · obtain ⟨b2, c2, e2⟩ := row_addr (hfin s1 A' c' hc1) m (by omega)
                    simp only [Value.slice.injEq] at e2
                    exact ⟨b2, e2.1⟩
                  rintro ⟨b2, rfl⟩
                  apply RL.pur; (apply OpP.indexAddr; exact kEv; exact kEv; exact hlt); exact rfl
                  refine RL.rowSet (by exact kEv) (by exact kEv) rfl rfl (hfin s1 A' c' hc1) (by simpa using hlt) ?_
                  refine kAutoB ?_
                  refine XJ.end0 rfl (jobM J E (setCell s1 a i v) A' c' ++ X) ?_ ⟨rfl, rfl, A', c', rfl⟩
                  have hrow : row 21 1 (.slice (some ⟨b2, 0, none⟩) (s.cells.getD a []).length c1) (s.cells.getD a []).length (((s.cells.getD a []).map intV).set i.toNat (.int .i32 v)) = rowI (.slice (some ⟨b2, 0, none⟩) (s.cells.getD a []).length c1) ((s.cells.getD a []).set i.toNat v) := by
                    unfold rowI
                    rw [List.length_set, List.map_set]
                    rfl
                  refine Gives.trans (B := rowI (.slice (some ⟨b2, 0, none⟩) (s.cells.getD a []).length c1) ((s.cells.getD a []).set i.toNat v) :: (jobH J E s1 A' c' ++ (innerM (J.us.eraseIdx a) (s1.cells.eraseIdx a) ++ (X ++ (rcel b5 50 [.int .u8 kd, .int .i64 num, .string nm, .slice (some ⟨b1, o1, none⟩) [q].length cp] :: F))))) (by rw [← hrow, Nat.mul_one, Nat.zero_add]; exact Gives.refl _) ?_
                  refine (job_put ((s.cells.getD a []).set i.toNat v) hua (by rw [hc1]; omega) _).trans ?_
                  have hset : { s1 with cells := s1.cells.set a ((s.cells.getD a []).set i.toNat v) } = setCell s1 a i v := by unfold setCell; rw [hc1]
                  rw [hset]
                  exact hdrop (setCell s1 a i v) A' c'
              · intro p hp'
                cases hib : idxB i (s.cells.getD a []).length with
                | true => rw [hib, if_pos rfl] at hp'; cases hp'
                | false =>
                  rw [hib] at hp'
                  simp at hp'
                  subst hp'
                  refine kAutoB ?_
                  exact XJ.panics (jobM J E s1 A' c' ++ X) (hdrop s1 A' c') ⟨11, rfl, rfl, A', c', rfl⟩
            · rintro p _ ⟨x, he, rfl, A', c', rfl⟩
              simp only at he
              subst he
              rw [List.append_assoc]
              refine kAutoB ?_
              exact XJ.panics (jobM J E s1 A' c' ++ X) (hdrop s1 A' c') ⟨x, rfl, rfl, A', c', rfl⟩
        · rintro p _ ⟨N', ⟨hp', rfl⟩, rfl⟩
          obtain ⟨e, he, rfl⟩ := resE_err hp'
          rw [he]
          refine kAutoB ?_
          refine XJ.panics (jobM J E s A c ++ X) ?_ ⟨e, rfl, rfl, A, c, rfl⟩
          rw [← List.append_assoc]
          exact Takes.drop2 _ _ _
    · rintro p _ ⟨N', ⟨hp', rfl⟩, rfl⟩
      cases hix : E.ix nm with
      | some a => unfold arrV at hp'; rw [hix] at hp'; cases hp'
      | none =>
        unfold arrV at hp'
        rw [hix] at hp'
        injection hp' with hp'
        subst hp'
        refine kAutoB ?_
        refine XJ.panics (jobM J E s A c ++ X) ?_ ⟨6, rfl, rfl, A, c, rfl⟩
        rw [← List.append_assoc]
        exact Takes.drop2 _ _ _
end Go.Proofs.YtgmapenlgammfaaGreatDoor
