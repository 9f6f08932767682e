/- The machine's exec: a statement. -/
import Derived.Test.YtgmapenlgammfaaGreatDoorExecA
set_option linter.all false
namespace Go.Proofs.YtgmapenlgammfaaGreatDoor
open Go
theorem get_spec (w0 : World) {J : JP} {E : JE} {lens : List Nat} (k : JobF w0 J E lens) {s : JS} (o : OKJ E lens s) (A : Option Addr) (c : Nat) (b2 b3 : Nat)
    (n : Node) (cs : List Value) (hR : NodeR w0 n cs) (hn : n.size < 4611686018427387904) (p e : Node) (hk : n.kids = [p, e]) (he : isB e 1 = true) :
    Spec Tryz.prog w0 121 #[.pointer (some ⟨b2, 0, none⟩), .pointer (some ⟨b3, 0, none⟩)]
      (jobM J E s A c ++ [rcel b2 160 [.pointer (some ⟨J.bm, 0, none⟩)], rcel b3 50 cs])
      (GRes J E [rcel b2 160 [.pointer (some ⟨J.bm, 0, none⟩)], rcel b3 50 cs] (s, evJ E s e)) := by
  obtain ⟨B, cp, rfl, hcap, hN⟩ := hR.kids
  obtain ⟨kd, num, nm, kids⟩ := n
  simp only [Node.kind, Node.num, Node.name, Node.kids] at *
  subst hk
  obtain ⟨b1, o1, r1, e1, hb1, hrl1, hr1⟩ := hN.at_ 1 (by simp)
  subst e1
  simp only [List.getElem_cons_succ, List.getElem_cons_zero, Nat.one_mul] at hb1 hr1
  have hes : e.size < (Node.mk kd num nm [p, e]).size := Node.size_kid (n := .mk kd num nm [p, e]) (by simp [Node.kids])
  have hev := eval_own w0 k o A c e r1 (by omega) hr1 he
  refine Spec.enter (args := [_, _]) Tryz.func121 rfl rfl rfl (fun F => ?_)
  refine CJ.gives Gives.front2r ?_
  refine kAutoB ?_
  (refine CJ.draws mixed 9 [rcel b2 160 _, rcel b3 50 _, rcel J.bm 114 (machV J E)] (by exact kGives) (dom_of (by kernel_rfl)) ?_)
  ((first | refine kAjB 0 ?_ | refine kAjS 0 ?_); (first | refine kAjB 1 ?_ | refine kAjS 1 ?_); (first | refine kAjB 2 ?_ | refine kAjS 2 ?_); (first | refine kAjB 3 ?_ | refine kAjS 3 ?_); (first | refine kAjB 4 ?_ | refine kAjS 4 ?_); (first | refine kAjB 5 ?_ | refine kAjS 5 ?_))
  (apply AJ.pur (i := 6); exact rfl; exact rfl; exact rfl; exact rfl; exact rfl; exact rfl; exact rfl; exact rfl; exact rfl; (exact OpP.indexAddrC 1 (by exact kEv) rfl (by simp) (o1 + 4) (by omega)))
  (apply AJ.pur (i := 7); exact rfl; exact rfl; exact rfl; exact rfl; exact rfl; exact rfl; exact rfl; exact rfl; exact rfl; (apply OpP.loadA; exact kEv; exact HasAt.base hb1; exact hrl1))
  (refine AJ.loud1 (i := 8) (by kernel_rfl) (by kernel_rfl) rfl (by kernel_rfl) (by kernel_rfl) rfl rfl rfl rfl rfl rfl (OpS.callO hev (by exact kEv) inferInstance (by exact kEvl) (by exact rfl) Takes.two) ?_ ?_)
  · rintro x _ ⟨N', ⟨hx, rfl⟩, rfl⟩
    refine ⟨by (repeat (first | exact Gives.refl _ | exact Gives.nil _ | (apply Gives.cons; (focus ((first | ((repeat (first | exact Takes.here _ _ | apply Takes.there)); done) | (apply Takes.appR; exact kTake; done) | (apply Takes.appR; apply Takes.appR; exact kTake; done))))) | apply Gives.drop)), ?_⟩
    obtain ⟨i, hi, rfl⟩ := resE_ok hx
    (refine AJ.tail (by kernel_rfl) (by kernel_rfl) rfl (by kernel_rfl) (by kernel_rfl) (by kernel_rfl) ?_)
    refine kAutoB ?_
    refine XJ.gives Gives.front2 ?_
    exact XJ.ret1 rfl rfl (jobM J E s A c ++ [_, _]) (by rw [List.append_assoc]; exact Gives.front2') ⟨i, hi, rfl, A, c, rfl⟩
  · rintro p _ ⟨N', ⟨hp', rfl⟩, rfl⟩
    obtain ⟨x, hx, rfl⟩ := resE_err hp'
    refine kAutoB ?_
    refine XJ.gives Gives.front2 ?_
    exact XJ.panics (jobM J E s A c ++ [_, _]) (by rw [List.append_assoc]; exact Gives.front2') ⟨x, hx, rfl, A, c, rfl⟩

theorem vars_del (s : JS) (nm : ByteArray) : del (fun n => (s.vars n).map intV) nm = fun n => ((delI s.vars nm) n).map intV := by
  funext n
  unfold del delI
  by_cases h : n = nm
  · simp [h]
  · simp [h]
theorem stepJ_of {E : JE} {s : JS} {f : JS → JR} (h : (stepJ E s).2 = none) : bindJ (stepJ E s) f = f (stepJ E s).1 := bindJ_none h
theorem exec_spec (w0 : World) {J : JP} {E : JE} {lens : List Nat} (k : JobF w0 J E lens) : ∀ (m : Nat) (n : Node), n.size ≤ m → n.size < 4611686018427387904 → isB n 4 = true → ExecOK w0 J E lens 83 n := by
  intro m
  induction m with
  | zero => intro n h; have := n.size_pos; omega
  | succ m ih =>
    intro n hm hn hB s A c cs o0 hR
    have hRR := hR
    have hblk : ∀ b ∈ n.kids, isB b 8 = true → ExecOK w0 J E lens 50 b := by
      intro b hb h8
      have h1 := Node.size_kid hb
      obtain ⟨kd, num, nm, kids⟩ := b
      refine block_spec w0 k _ (by omega) h8 ?_
      intro q hq
      have h2 := Node.size_kid hq
      exact ih q (by omega) (by omega) ((block_cases h8).2 q hq)
    obtain ⟨B, cp, rfl, hcap, hN⟩ := hR.kids
    have hnn := hn
    obtain ⟨kd, num, nm, kids⟩ := n
    simp only [Node.kind, Node.num, Node.name, Node.kids] at *
    have h47 : ¬ kd = 47 := by intro h; subst h; rw [isB, if_pos rfl, show (bitAnd .u8 4 8 != 0) = false by decide] at hB; simp at hB
    have e : execN E (.mk kd num nm kids) s = bindJ (stepJ E s) (stmtJ E kd num nm kids (execL E kids)) := by rw [execN, nodeJ, if_neg h47]
    rw [e]
    refine Spec.enter (args := [_, _]) Tryz.func83 rfl rfl rfl (fun F => ?_)
    refine kAutoB ?_
    (apply RL.box1; exact kEv; exact rfl; exact rfl; intro b2)
    refine RL.freeze (Takes.here _ _) ?_
    refine kAutoB ?_
    (apply RL.boxR; exact kEv; exact rfl; intro b3)
    refine RL.gives (M' := rcel b2 160 [.pointer (some ⟨J.bm, 0, none⟩)] :: rcel b3 50 [.int .u8 kd, .int .i64 num, .string nm, .slice B kids.length cp] :: (jobM J E s A c ++ F)) (by exact kGives) ?_
    refine kAutoB ?_
    (apply RL.callKP; exact kEv; exact inferInstance; exact kEvl; exact Takes.two; exact step_spec w0 k o0 A c; exact rfl)
    rotate_left
    · rintro p _ ⟨x, h1, rfl, A1, c1, rfl⟩
      refine kAutoB ?_
      rw [bindJ_some h1]
      exact XJ.panics (jobM J E (stepJ E s).1 A1 c1) (Gives.front2.trans Gives.drop2) ⟨x, rfl, rfl, A1, c1, rfl⟩
    rintro _ _ ⟨h1, rfl, A1, c1, rfl⟩
    rw [bindJ_none h1]
    have o := (stepJ_ok o0).1
    have hstp := (stepJ_ok o0).2 h1
    generalize (stepJ E s).1 = s at o hstp ⊢
    clear h1 o0 e
    refine RL.gives Gives.front2 ?_
    refine kAutoB ?_
    have hcase := stmt_cases hB
    cases hcase with
    | assign p e hp he =>
      obtain ⟨b1, o1, r1, e1, hb1, hrl1, hr1⟩ := hN.at_ 0 (by simp)
      subst e1
      simp only [List.getElem_cons_zero, Nat.zero_mul, Nat.add_zero] at hb1 hr1
      have hps : p.size < (Node.mk 40 num nm [p, e]).size := Node.size_kid (n := .mk 40 num nm [p, e]) (by simp [Node.kids])
      have hst := store_spec w0 k o A1 c1 [rcel b2 160 [.pointer (some ⟨J.bm, 0, none⟩)], rcel b3 50 [.int .u8 40, .int .i64 num, .string nm, .slice (some ⟨b1, o1, none⟩) [p, e].length cp]] p r1 hr1 (by omega) (place_cases hp) true (fun s => (s, evJ E s e)) 121 [] [.pointer (some ⟨b2, 0, none⟩), .pointer (some ⟨b3, 0, none⟩)] inferInstance rfl (get_spec w0 k o A1 c1 b2 b3 _ _ hRR hnn p e rfl he)
      have e0 : stmtJ E 40 num nm [p, e] (execL E [p, e]) s = storeJ E p true (fun s => (s, evJ E s e)) s := by simp [stmtJ, kid]
      rw [e0]
      refine kAutoB ?_
      (refine CJ.draws mixed 7 [rcel b2 160 _, rcel b3 50 _] (by exact kGives) (dom_of (by kernel_rfl)) ?_)
      ((first | refine kAjB 0 ?_ | refine kAjS 0 ?_); (first | refine kAjB 1 ?_ | refine kAjS 1 ?_); (first | refine kAjB 2 ?_ | refine kAjS 2 ?_))
      (apply AJ.pur (i := 3); exact rfl; exact rfl; exact rfl; exact rfl; exact rfl; exact rfl; exact rfl; exact rfl; exact rfl; (exact OpP.indexAddrC 0 (by exact kEv) rfl (by simp) o1 (by omega)))
      (apply AJ.pur (i := 4); exact rfl; exact rfl; exact rfl; exact rfl; exact rfl; exact rfl; exact rfl; exact rfl; exact rfl; (apply OpP.loadA; exact kEv; exact HasAt.base hb1; exact hrl1))
      ((first | refine kAjB 5 ?_ | refine kAjS 5 ?_))
      (refine AJ.loud1 (i := 6) (by kernel_rfl) (by kernel_rfl) rfl (by kernel_rfl) (by kernel_rfl) rfl rfl rfl rfl rfl rfl (OpS.callO hst (by exact kEv) inferInstance (by exact kEvl) (by exact rfl) Takes.two') ?_ ?_)
      · rintro _ _ ⟨N', ⟨g1, rfl, A2, c2, rfl⟩, rfl⟩
        refine ⟨Gives.front2r.trans (by exact kGives), ?_⟩
        (refine AJ.done (by kernel_rfl) (by kernel_rfl) rfl (by kernel_rfl) ?_)
        refine kAutoB ?_
        exact XJ.end0 rfl (jobM J E (storeJ E p true (fun s => (s, evJ E s e)) s).1 A2 c2) (Gives.front2r.trans Gives.drop2) ⟨g1, rfl, A2, c2, rfl⟩
      · rintro q _ ⟨N', ⟨x, g1, rfl, A2, c2, rfl⟩, rfl⟩
        refine kAutoB ?_
        exact XJ.panics (jobM J E (storeJ E p true (fun s => (s, evJ E s e)) s).1 A2 c2) (Gives.front2r.trans Gives.drop2) ⟨x, g1, rfl, A2, c2, rfl⟩
    | cond q a b hq ha hb =>
      obtain ⟨b1, o1, r1, e1, hb1, hrl1, hr1⟩ := hN.at_ 0 (by simp)
      obtain ⟨b4, o4, r4, e4, hb4, hrl4, hr4⟩ := hN.at_ 1 (by simp)
      obtain ⟨b6, o6, r6, e6, hb6, hrl6, hr6⟩ := hN.at_ 2 (by simp)
      subst e1
      obtain ⟨rfl, rfl⟩ : b1 = b4 ∧ o1 = o4 := by
        simp only [Option.some.injEq, Addr.mk.injEq, and_true] at e4
        exact e4
      obtain ⟨rfl, rfl⟩ : b1 = b6 ∧ o1 = o6 := by
        simp only [Option.some.injEq, Addr.mk.injEq, and_true] at e6
        exact e6
      simp only [List.getElem_cons_zero, List.getElem_cons_succ, Nat.zero_mul, Nat.add_zero, Nat.one_mul] at hb1 hb4 hb6 hr1 hr4 hr6
      have hqs : q.size < (Node.mk 41 num nm [q, a, b]).size := Node.size_kid (n := .mk 41 num nm [q, a, b]) (by simp [Node.kids])
      have hev := eval_own w0 k o A1 c1 q r1 (by omega) hr1 hq
      have e0 : stmtJ E 41 num nm [q, a, b] (execL E [q, a, b]) s = ifJ E q (execN E a) (execN E b) s := by simp [stmtJ, kid, execL]
      rw [e0]
      unfold ifJ
      refine kAutoB ?_
      (refine CJ.draws mixed 10 [rcel b2 160 _, rcel b3 50 _, rcel J.bm 114 (machV J E)] (by exact kGives) (dom_of (by kernel_rfl)) ?_)
      ((first | refine kAjB 0 ?_ | refine kAjS 0 ?_); (first | refine kAjB 1 ?_ | refine kAjS 1 ?_); (first | refine kAjB 2 ?_ | refine kAjS 2 ?_); (first | refine kAjB 3 ?_ | refine kAjS 3 ?_); (first | refine kAjB 4 ?_ | refine kAjS 4 ?_); (first | refine kAjB 5 ?_ | refine kAjS 5 ?_))
      (apply AJ.pur (i := 6); exact rfl; exact rfl; exact rfl; exact rfl; exact rfl; exact rfl; exact rfl; exact rfl; exact rfl; (exact OpP.indexAddrC 0 (by exact kEv) rfl (by simp) o1 (by omega)))
      (apply AJ.pur (i := 7); exact rfl; exact rfl; exact rfl; exact rfl; exact rfl; exact rfl; exact rfl; exact rfl; exact rfl; (apply OpP.loadA; exact kEv; exact HasAt.base hb1; exact hrl1))
      (refine AJ.loud1 (i := 8) (by kernel_rfl) (by kernel_rfl) rfl (by kernel_rfl) (by kernel_rfl) rfl rfl rfl rfl rfl rfl (OpS.callO hev (by exact kEv) inferInstance (by exact kEvl) (by exact rfl) Takes.two) ?_ ?_)
      · rintro x _ ⟨N', ⟨hx, rfl⟩, rfl⟩
        refine ⟨by (repeat (first | exact Gives.refl _ | exact Gives.nil _ | (apply Gives.cons; (focus ((first | ((repeat (first | exact Takes.here _ _ | apply Takes.there)); done) | (apply Takes.appR; exact kTake; done) | (apply Takes.appR; apply Takes.appR; exact kTake; done))))) | apply Gives.drop)), ?_⟩
        obtain ⟨i, hi, rfl⟩ := resE_ok hx
        rw [hi]
        ((first | refine kAjB 9 ?_ | refine kAjS 9 ?_))
        (refine AJ.done (by kernel_rfl) (by kernel_rfl) rfl (by kernel_rfl) ?_)
        simp only
        refine XJ.gives Gives.front2 ?_
        cases hz : (i != 0)
        · have hz' : i = 0 := by simpa using hz
          rw [if_pos hz']
          refine kAutoB ?_
          (refine CJ.draws mixed 6 [rcel b2 160 _, rcel b3 50 _] (by exact kGives) (dom_of (by kernel_rfl)) ?_)
          ((first | refine kAjB 0 ?_ | refine kAjS 0 ?_); (first | refine kAjB 1 ?_ | refine kAjS 1 ?_); (first | refine kAjB 2 ?_ | refine kAjS 2 ?_))
          (apply AJ.pur (i := 3); exact rfl; exact rfl; exact rfl; exact rfl; exact rfl; exact rfl; exact rfl; exact rfl; exact rfl; (exact OpP.indexAddrC 2 (by exact kEv) rfl (by simp) (o1 + 8) (by omega)))
          (apply AJ.pur (i := 4); exact rfl; exact rfl; exact rfl; exact rfl; exact rfl; exact rfl; exact rfl; exact rfl; exact rfl; (apply OpP.loadA; exact kEv; exact HasAt.base hb6; exact hrl6))
          (refine AJ.loud1 (i := 5) (by kernel_rfl) (by kernel_rfl) rfl (by kernel_rfl) (by kernel_rfl) rfl rfl rfl rfl rfl rfl (OpS.callO (hblk b (by simp) hb s A1 c1 r6 o hr6) (by exact kEv) inferInstance (by exact kEvl) (by exact rfl) Takes.two) ?_ ?_)
          · rintro _ _ ⟨N', ⟨g1, rfl, A2, c2, rfl⟩, rfl⟩
            refine ⟨by (repeat (first | exact Gives.refl _ | exact Gives.nil _ | (apply Gives.cons; (focus ((first | ((repeat (first | exact Takes.here _ _ | apply Takes.there)); done) | (apply Takes.appR; exact kTake; done) | (apply Takes.appR; apply Takes.appR; exact kTake; done))))) | apply Gives.drop)), ?_⟩
            (refine AJ.done (by kernel_rfl) (by kernel_rfl) rfl (by kernel_rfl) ?_)
            refine kAutoB ?_
            exact XJ.end0 rfl (jobM J E (execN E b s).1 A2 c2) (Gives.front2.trans Gives.drop2) ⟨g1, rfl, A2, c2, rfl⟩
          · rintro p _ ⟨N', ⟨x, g1, rfl, A2, c2, rfl⟩, rfl⟩
            refine kAutoB ?_
            exact XJ.panics (jobM J E (execN E b s).1 A2 c2) (Gives.front2.trans Gives.drop2) ⟨x, g1, rfl, A2, c2, rfl⟩
        · have hz' : ¬ i = 0 := by simpa using hz
          rw [if_neg hz']
          refine kAutoB ?_
          (refine CJ.draws mixed 6 [rcel b2 160 _, rcel b3 50 _] (by exact kGives) (dom_of (by kernel_rfl)) ?_)
          ((first | refine kAjB 0 ?_ | refine kAjS 0 ?_); (first | refine kAjB 1 ?_ | refine kAjS 1 ?_); (first | refine kAjB 2 ?_ | refine kAjS 2 ?_))
          (apply AJ.pur (i := 3); exact rfl; exact rfl; exact rfl; exact rfl; exact rfl; exact rfl; exact rfl; exact rfl; exact rfl; (exact OpP.indexAddrC 1 (by exact kEv) rfl (by simp) (o1 + 4) (by omega)))
          (apply AJ.pur (i := 4); exact rfl; exact rfl; exact rfl; exact rfl; exact rfl; exact rfl; exact rfl; exact rfl; exact rfl; (apply OpP.loadA; exact kEv; exact HasAt.base hb4; exact hrl4))
          (refine AJ.loud1 (i := 5) (by kernel_rfl) (by kernel_rfl) rfl (by kernel_rfl) (by kernel_rfl) rfl rfl rfl rfl rfl rfl (OpS.callO (hblk a (by simp) ha s A1 c1 r4 o hr4) (by exact kEv) inferInstance (by exact kEvl) (by exact rfl) Takes.two) ?_ ?_)
          · rintro _ _ ⟨N', ⟨g1, rfl, A2, c2, rfl⟩, rfl⟩
            refine ⟨by (repeat (first | exact Gives.refl _ | exact Gives.nil _ | (apply Gives.cons; (focus ((first | ((repeat (first | exact Takes.here _ _ | apply Takes.there)); done) | (apply Takes.appR; exact kTake; done) | (apply Takes.appR; apply Takes.appR; exact kTake; done))))) | apply Gives.drop)), ?_⟩
            (refine AJ.done (by kernel_rfl) (by kernel_rfl) rfl (by kernel_rfl) ?_)
            refine kAutoB ?_
            exact XJ.end0 rfl (jobM J E (execN E a s).1 A2 c2) (Gives.front2.trans Gives.drop2) ⟨g1, rfl, A2, c2, rfl⟩
          · rintro p _ ⟨N', ⟨x, g1, rfl, A2, c2, rfl⟩, rfl⟩
            refine kAutoB ?_
            exact XJ.panics (jobM J E (execN E a s).1 A2 c2) (Gives.front2.trans Gives.drop2) ⟨x, g1, rfl, A2, c2, rfl⟩
      · rintro p _ ⟨N', ⟨hp', rfl⟩, rfl⟩
        obtain ⟨x, hx, rfl⟩ := resE_err hp'
        rw [hx]
        refine kAutoB ?_
        exact XJ.panics (jobM J E s A1 c1) (Gives.front2.trans Gives.drop2) ⟨x, rfl, rfl, A1, c1, rfl⟩
    | count b hb h1 h2 =>
      obtain ⟨b1, o1, r1, e1, hb1, hrl1, hr1⟩ := hN.at_ 0 (by simp)
      subst e1
      simp only [List.getElem_cons_zero, Nat.zero_mul, Nat.add_zero] at hb1 hr1
      have e0 : stmtJ E 42 num nm [b] (execL E [b]) s = forJ E nm (execN E b) num.toNat 0 s := by simp [stmtJ, execL]
      rw [e0]
      refine kAutoB ?_
      refine CJ.loop (σ := Nat × JS × Option Addr × Nat) (fun t => (t.1 : Int) ≤ num ∧ OKJ E lens t.2.1 ∧ forJ E nm (execN E b) num.toNat 0 s = forJ E nm (execN E b) (num.toNat - t.1) (t.1 : Int) t.2.1)
        (fun t => [(48, .int .i64 (t.1 : Int)), (47, .int .i64 num), (2, .pointer (some ⟨b2, 0, none⟩)), (3, .pointer (some ⟨b3, 0, none⟩))])
        (fun t => rcel b2 160 [.pointer (some ⟨J.bm, 0, none⟩)] :: rcel b3 50 [.int .u8 42, .int .i64 num, .string nm, .slice (some ⟨b1, o1, none⟩) [b].length cp] :: (jobM J E t.2.1 t.2.2.1 t.2.2.2 ++ F)) (fun t => num.toNat - t.1) (0, s, A1, c1) ⟨by simp only; omega, o, rfl⟩ (by exact kEsub) (Gives.refl _) ?_
      rintro ⟨i, s1, A2, c2⟩ ⟨hi, o, he⟩
      simp only at hi o he
      refine kAutoB ?_
      cases hlt : decide ((i : Int) < num)
      · have hlt' := of_decide_eq_false hlt
        rw [show num.toNat - i = 0 by omega, forJ] at he
        rw [he]
        refine kAutoB ?_
        (refine CJ.draws mixed 8 [rcel b2 160 _, rcel b3 50 _, rcel J.bm 114 (machV J E)] (by exact kGives) (dom_of (by kernel_rfl)) ?_)
        ((first | refine kAjB 0 ?_ | refine kAjS 0 ?_); (first | refine kAjB 1 ?_ | refine kAjS 1 ?_); (first | refine kAjB 2 ?_ | refine kAjS 2 ?_); (first | refine kAjB 3 ?_ | refine kAjS 3 ?_); (first | refine kAjB 4 ?_ | refine kAjS 4 ?_); (first | refine kAjB 5 ?_ | refine kAjS 5 ?_); (first | refine kAjB 6 ?_ | refine kAjS 6 ?_))
        (refine AJ.loud0 (i := 7) (by kernel_rfl) (by kernel_rfl) rfl (by kernel_rfl) (by kernel_rfl) rfl rfl rfl rfl (OpS.delete (enc := Value.string) (by exact kEv) (by exact kEv) (by exact kTake)) ?_ ?_)
        · rintro _ _ rfl
          refine ⟨by (repeat (first | exact Gives.refl _ | exact Gives.nil _ | (apply Gives.cons; (focus ((first | ((repeat (first | exact Takes.here _ _ | apply Takes.there)); done) | (apply Takes.appR; exact kTake; done) | (apply Takes.appR; apply Takes.appR; exact kTake; done))))) | apply Gives.drop)), ?_⟩
          (refine AJ.done (by kernel_rfl) (by kernel_rfl) rfl (by kernel_rfl) ?_)
          refine kAutoB ?_
          refine XJ.end0 rfl (jobM J E { s1 with vars := delI s1.vars nm } A2 c2) ?_ ⟨rfl, rfl, A2, c2, rfl⟩
          rw [vars_del]
          exact kGives
        · rintro _ _ h; exact h.elim
      · have hlt' := of_decide_eq_true hlt
        obtain ⟨q, hq⟩ : ∃ q, num.toNat - i = q + 1 := ⟨num.toNat - i - 1, by omega⟩
        rw [hq, forJ] at he
        refine kAutoB ?_
        (apply RL.callKP; exact kEv; exact inferInstance; exact kEvl; exact Takes.two; exact step_spec w0 k o A2 c2; exact rfl)
        rotate_left
        · rintro p _ ⟨x, h1, rfl, A3, c3, rfl⟩
          refine kAutoB ?_
          rw [bindJ_some h1] at he
          rw [he]
          exact XJ.panics (jobM J E (stepJ E s1).1 A3 c3) (Gives.front2.trans Gives.drop2) ⟨x, rfl, rfl, A3, c3, rfl⟩
        rintro _ _ ⟨h1, rfl, A3, c3, rfl⟩
        rw [bindJ_none h1] at he
        have o2 := (stepJ_ok o).1
        generalize (stepJ E s1).1 = s2 at o2 he ⊢
        refine RL.gives Gives.front2 ?_
        refine kAutoB ?_
        (refine CJ.draws mixed 9 [rcel b2 160 _, rcel b3 50 _, rcel J.bm 114 (machV J E)] (by exact kGives) (dom_of (by kernel_rfl)) ?_)
        ((first | refine kAjB 0 ?_ | refine kAjS 0 ?_); (first | refine kAjB 1 ?_ | refine kAjS 1 ?_); (first | refine kAjB 2 ?_ | refine kAjS 2 ?_); (first | refine kAjB 3 ?_ | refine kAjS 3 ?_); (first | refine kAjB 4 ?_ | refine kAjS 4 ?_); (first | refine kAjB 5 ?_ | refine kAjS 5 ?_); (first | refine kAjB 6 ?_ | refine kAjS 6 ?_); (first | refine kAjB 7 ?_ | refine kAjS 7 ?_); (first | refine kAjB 8 ?_ | refine kAjS 8 ?_))
        (refine AJ.tail (by kernel_rfl) (by kernel_rfl) rfl (by kernel_rfl) (by kernel_rfl) (by kernel_rfl) ?_)
        (apply RL.mapUpdate; exact kEv; exact kEv; exact kEv; exact kTake)
        refine kAutoB ?_
        rw [vars_set]
        have o3 := o2.setVar nm (I32.wrap (i : Int))
        refine CJ.gives (M' := rcel b2 160 [.pointer (some ⟨J.bm, 0, none⟩)] :: rcel b3 50 [.int .u8 42, .int .i64 num, .string nm, .slice (some ⟨b1, o1, none⟩) [b].length cp] :: (jobM J E (setVar s2 nm (IntKind.i32.wrap (i : Int))) A3 c3 ++ F)) (by exact kGives) ?_
        generalize setVar s2 nm (IntKind.i32.wrap (i : Int)) = s3 at o3 he ⊢
        (refine CJ.draws mixed 6 [rcel b2 160 _, rcel b3 50 _] (by exact kGives) (dom_of (by kernel_rfl)) ?_)
        ((first | refine kAjB 0 ?_ | refine kAjS 0 ?_); (first | refine kAjB 1 ?_ | refine kAjS 1 ?_); (first | refine kAjB 2 ?_ | refine kAjS 2 ?_))
        (apply AJ.pur (i := 3); exact rfl; exact rfl; exact rfl; exact rfl; exact rfl; exact rfl; exact rfl; exact rfl; exact rfl; (exact OpP.indexAddrC 0 (by exact kEv) rfl (by simp) o1 (by omega)))
        (apply AJ.pur (i := 4); exact rfl; exact rfl; exact rfl; exact rfl; exact rfl; exact rfl; exact rfl; exact rfl; exact rfl; (apply OpP.loadA; exact kEv; exact HasAt.base hb1; exact hrl1))
        (refine AJ.loud1 (i := 5) (by kernel_rfl) (by kernel_rfl) rfl (by kernel_rfl) (by kernel_rfl) rfl rfl rfl rfl rfl rfl (OpS.callO (hblk b (by simp) hb s3 A3 c3 r1 o3 hr1) (by exact kEv) inferInstance (by exact kEvl) (by exact rfl) Takes.two) ?_ ?_)
        · rintro _ _ ⟨N', ⟨g1, rfl, A4, c4, rfl⟩, rfl⟩
          refine ⟨by (repeat (first | exact Gives.refl _ | exact Gives.nil _ | (apply Gives.cons; (focus ((first | ((repeat (first | exact Takes.here _ _ | apply Takes.there)); done) | (apply Takes.appR; exact kTake; done) | (apply Takes.appR; apply Takes.appR; exact kTake; done))))) | apply Gives.drop)), ?_⟩
          (refine AJ.done (by kernel_rfl) (by kernel_rfl) rfl (by kernel_rfl) ?_)
          refine kAutoB ?_
          rw [bindJ_none g1] at he
          rw [i64_succ i (by omega)]
          refine XJ.round (i + 1, (execN E b s3).1, A4, c4) ⟨by simp only; omega, execN_ok b k.inp o3, ?_⟩ (by simp only; omega) (by exact kEsub) Gives.front2
          simp only
          rw [he, show num.toNat - (i + 1) = q by omega]
          rfl
        · rintro p _ ⟨N', ⟨x, g1, rfl, A4, c4, rfl⟩, rfl⟩
          refine kAutoB ?_
          rw [bindJ_some g1] at he
          rw [he]
          exact XJ.panics (jobM J E (execN E b s3).1 A4 c4) (Gives.front2.trans Gives.drop2) ⟨x, rfl, rfl, A4, c4, rfl⟩
    | while_ q b hq hb h1 h2 =>
      obtain ⟨b1, o1, r1, e1, hb1, hrl1, hr1⟩ := hN.at_ 0 (by simp)
      obtain ⟨b4, o4, r4, e4, hb4, hrl4, hr4⟩ := hN.at_ 1 (by simp)
      subst e1
      obtain ⟨rfl, rfl⟩ : b1 = b4 ∧ o1 = o4 := by
        simp only [Option.some.injEq, Addr.mk.injEq, and_true] at e4
        exact e4
      simp only [List.getElem_cons_zero, List.getElem_cons_succ, Nat.zero_mul, Nat.add_zero, Nat.one_mul] at hb1 hb4 hr1 hr4
      have hqs : q.size < (Node.mk 43 num nm [q, b]).size := Node.size_kid (n := .mk 43 num nm [q, b]) (by simp [Node.kids])
      have e0 : stmtJ E 43 num nm [q, b] (execL E [q, b]) s = whileJ E q (execN E b) num.toNat s := by simp [stmtJ, kid, execL]
      rw [e0]
      refine kAutoB ?_
      refine CJ.loop (σ := Nat × JS × Option Addr × Nat) (fun t => (t.1 : Int) ≤ num ∧ OKJ E lens t.2.1 ∧ whileJ E q (execN E b) num.toNat s = whileJ E q (execN E b) (num.toNat - t.1) t.2.1)
        (fun t => [(5, .int .i64 (t.1 : Int)), (2, .pointer (some ⟨b2, 0, none⟩)), (3, .pointer (some ⟨b3, 0, none⟩))])
        (fun t => rcel b2 160 [.pointer (some ⟨J.bm, 0, none⟩)] :: rcel b3 50 [.int .u8 43, .int .i64 num, .string nm, .slice (some ⟨b1, o1, none⟩) [q, b].length cp] :: (jobM J E t.2.1 t.2.2.1 t.2.2.2 ++ F)) (fun t => num.toNat - t.1) (0, s, A1, c1) ⟨by simp only; omega, o, rfl⟩ (by exact kEsub) (Gives.refl _) ?_
      rintro ⟨i, s1, A2, c2⟩ ⟨hi, o, he⟩
      simp only at hi o he
      have hwh : whileJ E q (execN E b) (num.toNat - i) s1 = bindJ (stepJ E s1) (ifJ E q (if (i : Int) = num then (fun s => (s, some 11)) else fun s => bindJ (execN E b s) (whileJ E q (execN E b) (num.toNat - (i + 1)))) noJ) := by
        by_cases hin : (i : Int) = num
        · rw [show num.toNat - i = 0 by omega, whileJ, if_pos hin]
        · obtain ⟨r, hr⟩ : ∃ r, num.toNat - i = r + 1 := ⟨num.toNat - i - 1, by omega⟩
          rw [hr, whileJ, if_neg hin, show num.toNat - (i + 1) = r by omega]
      rw [hwh] at he
      clear hwh
      refine kAutoB ?_
      (apply RL.callKP; exact kEv; exact inferInstance; exact kEvl; exact Takes.two; exact step_spec w0 k o A2 c2; exact rfl)
      rotate_left
      · rintro p _ ⟨x, h1, rfl, A3, c3, rfl⟩
        refine kAutoB ?_
        rw [bindJ_some h1] at he
        rw [he]
        exact XJ.panics (jobM J E (stepJ E s1).1 A3 c3) (Gives.front2.trans Gives.drop2) ⟨x, rfl, rfl, A3, c3, rfl⟩
      rintro _ _ ⟨h1, rfl, A3, c3, rfl⟩
      rw [bindJ_none h1] at he
      have o2 := (stepJ_ok o).1
      generalize (stepJ E s1).1 = s2 at o2 he ⊢
      refine RL.gives Gives.front2 ?_
      refine kAutoB ?_
      have hev := eval_own w0 k o2 A3 c3 q r1 (by omega) hr1 hq
      unfold ifJ at he
      (refine CJ.draws mixed 10 [rcel b2 160 _, rcel b3 50 _, rcel J.bm 114 (machV J E)] (by exact kGives) (dom_of (by kernel_rfl)) ?_)
      ((first | refine kAjB 0 ?_ | refine kAjS 0 ?_); (first | refine kAjB 1 ?_ | refine kAjS 1 ?_); (first | refine kAjB 2 ?_ | refine kAjS 2 ?_); (first | refine kAjB 3 ?_ | refine kAjS 3 ?_); (first | refine kAjB 4 ?_ | refine kAjS 4 ?_); (first | refine kAjB 5 ?_ | refine kAjS 5 ?_))
      (apply AJ.pur (i := 6); exact rfl; exact rfl; exact rfl; exact rfl; exact rfl; exact rfl; exact rfl; exact rfl; exact rfl; (exact OpP.indexAddrC 0 (by exact kEv) rfl (by simp) o1 (by omega)))
      (apply AJ.pur (i := 7); exact rfl; exact rfl; exact rfl; exact rfl; exact rfl; exact rfl; exact rfl; exact rfl; exact rfl; (apply OpP.loadA; exact kEv; exact HasAt.base hb1; exact hrl1))
      (refine AJ.loud1 (i := 8) (by kernel_rfl) (by kernel_rfl) rfl (by kernel_rfl) (by kernel_rfl) rfl rfl rfl rfl rfl rfl (OpS.callO hev (by exact kEv) inferInstance (by exact kEvl) (by exact rfl) Takes.two) ?_ ?_)
      · rintro x _ ⟨N', ⟨hx, rfl⟩, rfl⟩
        refine ⟨by (repeat (first | exact Gives.refl _ | exact Gives.nil _ | (apply Gives.cons; (focus ((first | ((repeat (first | exact Takes.here _ _ | apply Takes.there)); done) | (apply Takes.appR; exact kTake; done) | (apply Takes.appR; apply Takes.appR; exact kTake; done))))) | apply Gives.drop)), ?_⟩
        obtain ⟨v, hv, rfl⟩ := resE_ok hx
        rw [hv] at he
        simp only at he
        ((first | refine kAjB 9 ?_ | refine kAjS 9 ?_))
        (refine AJ.done (by kernel_rfl) (by kernel_rfl) rfl (by kernel_rfl) ?_)
        refine XJ.gives Gives.front2 ?_
        cases hz : (v == 0)
        · have hz' : ¬ v = 0 := by simpa using hz
          rw [if_neg hz'] at he
          refine kAutoB ?_
          cases hin : ((i : Int) == num)
          · have hin' : ¬ (i : Int) = num := by simpa using hin
            rw [if_neg hin'] at he
            refine kAutoB ?_
            (refine CJ.draws mixed 6 [rcel b2 160 _, rcel b3 50 _] (by exact kGives) (dom_of (by kernel_rfl)) ?_)
            ((first | refine kAjB 0 ?_ | refine kAjS 0 ?_); (first | refine kAjB 1 ?_ | refine kAjS 1 ?_); (first | refine kAjB 2 ?_ | refine kAjS 2 ?_))
            (apply AJ.pur (i := 3); exact rfl; exact rfl; exact rfl; exact rfl; exact rfl; exact rfl; exact rfl; exact rfl; exact rfl; (exact OpP.indexAddrC 1 (by exact kEv) rfl (by simp) (o1 + 4) (by omega)))
            (apply AJ.pur (i := 4); exact rfl; exact rfl; exact rfl; exact rfl; exact rfl; exact rfl; exact rfl; exact rfl; exact rfl; (apply OpP.loadA; exact kEv; exact HasAt.base hb4; exact hrl4))
            (refine AJ.loud1 (i := 5) (by kernel_rfl) (by kernel_rfl) rfl (by kernel_rfl) (by kernel_rfl) rfl rfl rfl rfl rfl rfl (OpS.callO (hblk b (by simp) hb s2 A3 c3 r4 o2 hr4) (by exact kEv) inferInstance (by exact kEvl) (by exact rfl) Takes.two) ?_ ?_)
            · rintro _ _ ⟨N', ⟨g1, rfl, A4, c4, rfl⟩, rfl⟩
              refine ⟨by (repeat (first | exact Gives.refl _ | exact Gives.nil _ | (apply Gives.cons; (focus ((first | ((repeat (first | exact Takes.here _ _ | apply Takes.there)); done) | (apply Takes.appR; exact kTake; done) | (apply Takes.appR; apply Takes.appR; exact kTake; done))))) | apply Gives.drop)), ?_⟩
              (refine AJ.done (by kernel_rfl) (by kernel_rfl) rfl (by kernel_rfl) ?_)
              refine kAutoB ?_
              rw [bindJ_none g1] at he
              rw [i64_succ i (by omega)]
              exact XJ.round (i + 1, (execN E b s2).1, A4, c4) ⟨by simp only; omega, execN_ok b k.inp o2, he⟩ (by simp only; omega) (by exact kEsub) Gives.front2
            · rintro p _ ⟨N', ⟨x, g1, rfl, A4, c4, rfl⟩, rfl⟩
              refine kAutoB ?_
              rw [bindJ_some g1] at he
              rw [he]
              exact XJ.panics (jobM J E (execN E b s2).1 A4 c4) (Gives.front2.trans Gives.drop2) ⟨x, rfl, rfl, A4, c4, rfl⟩
          · have hin' : (i : Int) = num := by simpa using hin
            rw [if_pos hin'] at he
            refine kAutoB ?_
            (apply RL.callE; exact kEv; exact inferInstance; exact kEvl; exact (fail_spec w0 11); exact rfl)
            · intro v hv
              cases hv
            · intro p hp
              simp at hp
              subst hp
              refine kAutoB ?_
              rw [he]
              exact XJ.panics (jobM J E s2 A3 c3) Gives.drop2 ⟨11, rfl, rfl, A3, c3, rfl⟩
        · have hz' : v = 0 := by simpa using hz
          rw [if_pos hz'] at he
          rw [he]
          refine kAutoB ?_
          exact XJ.end0 rfl (jobM J E s2 A3 c3) Gives.drop2 ⟨rfl, rfl, A3, c3, rfl⟩
      · rintro p _ ⟨N', ⟨hp', rfl⟩, rfl⟩
        obtain ⟨x, hx, rfl⟩ := resE_err hp'
        rw [hx] at he
        rw [he]
        refine kAutoB ?_
        exact XJ.panics (jobM J E s2 A3 c3) (Gives.front2.trans Gives.drop2) ⟨x, rfl, rfl, A3, c3, rfl⟩
    | inp p hp =>
      obtain ⟨b1, o1, r1, e1, hb1, hrl1, hr1⟩ := hN.at_ 0 (by simp)
      subst e1
      simp only [List.getElem_cons_zero, Nat.zero_mul, Nat.add_zero] at hb1 hr1
      have hps : p.size < (Node.mk 44 num nm [p]).size := Node.size_kid (n := .mk 44 num nm [p]) (by simp [Node.kids])
      have hst := store_spec w0 k o A1 c1 [] p r1 hr1 (by omega) (place_cases hp) false (recvJ E) 122 [.pointer (some ⟨J.bm, 0, none⟩)] [] inferInstance rfl (receive_spec w0 k o A1 c1 [])
      have e0 : stmtJ E 44 num nm [p] (execL E [p]) s = storeJ E p false (recvJ E) s := by simp [stmtJ, kid]
      rw [e0]
      refine kAutoB ?_
      (refine CJ.draws mixed 8 [rcel b2 160 _, rcel b3 50 _] (by exact kGives) (dom_of (by kernel_rfl)) ?_)
      ((first | refine kAjB 0 ?_ | refine kAjS 0 ?_); (first | refine kAjB 1 ?_ | refine kAjS 1 ?_); (first | refine kAjB 2 ?_ | refine kAjS 2 ?_))
      (apply AJ.pur (i := 3); exact rfl; exact rfl; exact rfl; exact rfl; exact rfl; exact rfl; exact rfl; exact rfl; exact rfl; (exact OpP.indexAddrC 0 (by exact kEv) rfl (by simp) o1 (by omega)))
      (apply AJ.pur (i := 4); exact rfl; exact rfl; exact rfl; exact rfl; exact rfl; exact rfl; exact rfl; exact rfl; exact rfl; (apply OpP.loadA; exact kEv; exact HasAt.base hb1; exact hrl1))
      ((first | refine kAjB 5 ?_ | refine kAjS 5 ?_); (first | refine kAjB 6 ?_ | refine kAjS 6 ?_))
      (refine AJ.loud1 (i := 7) (by kernel_rfl) (by kernel_rfl) rfl (by kernel_rfl) (by kernel_rfl) rfl rfl rfl rfl rfl rfl (OpS.callO hst (by exact kEv) inferInstance (by exact kEvl) (by exact rfl) Takes.two0) ?_ ?_)
      · rintro _ _ ⟨N', ⟨g1, rfl, A2, c2, rfl⟩, rfl⟩
        rw [List.append_nil]
        refine ⟨by (repeat (first | exact Gives.refl _ | exact Gives.nil _ | (apply Gives.cons; (focus ((first | ((repeat (first | exact Takes.here _ _ | apply Takes.there)); done) | (apply Takes.appR; exact kTake; done) | (apply Takes.appR; apply Takes.appR; exact kTake; done))))) | apply Gives.drop)), ?_⟩
        (refine AJ.done (by kernel_rfl) (by kernel_rfl) rfl (by kernel_rfl) ?_)
        refine kAutoB ?_
        exact XJ.end0 rfl (jobM J E (storeJ E p false (recvJ E) s).1 A2 c2) (Gives.front2.trans Gives.drop2) ⟨g1, rfl, A2, c2, rfl⟩
      · rintro q _ ⟨N', ⟨x, g1, rfl, A2, c2, rfl⟩, rfl⟩
        rw [List.append_nil]
        refine kAutoB ?_
        exact XJ.panics (jobM J E (storeJ E p false (recvJ E) s).1 A2 c2) (Gives.front2.trans Gives.drop2) ⟨x, g1, rfl, A2, c2, rfl⟩
    | out e he =>
      obtain ⟨b1, o1, r1, e1, hb1, hrl1, hr1⟩ := hN.at_ 0 (by simp)
      subst e1
      simp only [List.getElem_cons_zero, Nat.zero_mul, Nat.add_zero] at hb1 hr1
      have hqs : e.size < (Node.mk 45 num nm [e]).size := Node.size_kid (n := .mk 45 num nm [e]) (by simp [Node.kids])
      have hev := eval_own w0 k o A1 c1 e r1 (by omega) hr1 he
      have hot := o.out
      have hsl := o.steps_le k
      have e0 : stmtJ E 45 num nm [e] (execL E [e]) s = outJ E e num s := by simp [stmtJ, kid]
      rw [e0]
      unfold outJ
      refine kAutoB ?_
      (refine CJ.draws mixed 9 [rcel b2 160 _, rcel b3 50 _, rcel J.bm 114 (machV J E)] (by exact kGives) (dom_of (by kernel_rfl)) ?_)
      ((first | refine kAjB 0 ?_ | refine kAjS 0 ?_); (first | refine kAjB 1 ?_ | refine kAjS 1 ?_); (first | refine kAjB 2 ?_ | refine kAjS 2 ?_); (first | refine kAjB 3 ?_ | refine kAjS 3 ?_); (first | refine kAjB 4 ?_ | refine kAjS 4 ?_); (first | refine kAjB 5 ?_ | refine kAjS 5 ?_))
      (apply AJ.pur (i := 6); exact rfl; exact rfl; exact rfl; exact rfl; exact rfl; exact rfl; exact rfl; exact rfl; exact rfl; (exact OpP.indexAddrC 0 (by exact kEv) rfl (by simp) o1 (by omega)))
      (apply AJ.pur (i := 7); exact rfl; exact rfl; exact rfl; exact rfl; exact rfl; exact rfl; exact rfl; exact rfl; exact rfl; (apply OpP.loadA; exact kEv; exact HasAt.base hb1; exact hrl1))
      (refine AJ.loud1 (i := 8) (by kernel_rfl) (by kernel_rfl) rfl (by kernel_rfl) (by kernel_rfl) rfl rfl rfl rfl rfl rfl (OpS.callO hev (by exact kEv) inferInstance (by exact kEvl) (by exact rfl) Takes.two) ?_ ?_)
      · rintro x _ ⟨N', ⟨hx, rfl⟩, rfl⟩
        refine ⟨by (repeat (first | exact Gives.refl _ | exact Gives.nil _ | (apply Gives.cons; (focus ((first | ((repeat (first | exact Takes.here _ _ | apply Takes.there)); done) | (apply Takes.appR; exact kTake; done) | (apply Takes.appR; apply Takes.appR; exact kTake; done))))) | apply Gives.drop)), ?_⟩
        obtain ⟨i, hi, rfl⟩ := resE_ok hx
        rw [hi]
        (refine AJ.tail (by kernel_rfl) (by kernel_rfl) rfl (by kernel_rfl) (by kernel_rfl) (by kernel_rfl) ?_)
        simp only
        refine kAutoB ?_
        refine CJ.gives (M' := cel J.br 37 (resV J s A1 c1 0) :: row 106 2 (.slice A1 s.out.length c1) s.out.length (outCells s.out) :: rcel b2 160 [.pointer (some ⟨J.bm, 0, none⟩)] :: rcel b3 50 [.int .u8 45, .int .i64 num, .string nm, .slice (some ⟨b1, o1, none⟩) [e].length cp] :: rcel J.bm 114 (machV J E) :: rmp Value.string J.ra (arrV J E) :: mp Value.string J.rv (fun nm => (s.vars nm).map intV) :: (innerM J.us s.cells ++ F)) (Gives.front2.trans (by exact kGives)) ?_
        (refine CJ.draws mixed 17 [rcel b2 160 _, rcel b3 50 _, rcel J.bm 114 (machV J E), cel J.br 37 (resV J s A1 c1 0)] (by exact kGives) (dom_of (by kernel_rfl)) ?_)
        ((first | refine kAjB 0 ?_ | refine kAjS 0 ?_); (first | refine kAjB 1 ?_ | refine kAjS 1 ?_); (first | refine kAjB 2 ?_ | refine kAjS 2 ?_); (first | refine kAjB 3 ?_ | refine kAjS 3 ?_); (first | refine kAjB 4 ?_ | refine kAjS 4 ?_); (first | refine kAjB 5 ?_ | refine kAjS 5 ?_); (first | refine kAjB 6 ?_ | refine kAjS 6 ?_); (first | refine kAjB 7 ?_ | refine kAjS 7 ?_); (first | refine kAjB 8 ?_ | refine kAjS 8 ?_); (first | refine kAjB 9 ?_ | refine kAjS 9 ?_); (first | refine kAjB 10 ?_ | refine kAjS 10 ?_); (first | refine kAjB 11 ?_ | refine kAjS 11 ?_); (first | refine kAjB 12 ?_ | refine kAjS 12 ?_); (first | refine kAjB 13 ?_ | refine kAjS 13 ?_); (first | refine kAjB 14 ?_ | refine kAjS 14 ?_))
        (refine AJ.loud1 (i := 15) (by kernel_rfl) (by kernel_rfl) rfl (by kernel_rfl) (by kernel_rfl) rfl rfl rfl rfl rfl rfl (OpS.buildSlice (E := 106) [.int .i64 num, .int .i32 i] rfl (by exact kEvl) (fun w => by kernel_rfl)) ?_ ?_)
        · rintro _ _ ⟨b, rfl, rfl⟩
          refine ⟨by exact kGives, ?_⟩
          (refine AJ.loud1 (i := 16) (by kernel_rfl) (by kernel_rfl) rfl (by kernel_rfl) (by kernel_rfl) rfl rfl rfl rfl rfl rfl (OpS.append (m := 1) (news := [.int .i64 num, .int .i32 i]) (by exact kEv) (by exact kEv) (Takes.there (Takes.there (Takes.here _ _))) (fun h m => ⟨rfl, by simp [Value.oneCell'], .inr ⟨_, _, _, rfl, HasAt.pt (Takes.here _ _) atAll⟩⟩) (by simp only [maxLen]; omega) (by omega)) ?_ ?_)
          · rintro _ _ ⟨⟨A2, c2, rfl⟩, rfl⟩
            refine ⟨by exact kGives, ?_⟩
            (refine AJ.tail (by kernel_rfl) (by kernel_rfl) rfl (by kernel_rfl) (by kernel_rfl) (by kernel_rfl) ?_)
            refine kAutoB ?_
            (apply RL.store; exact kEv; exact kEv; exact kTake; exact rfl; exact rfl; exact rfl)
            refine kAutoB ?_
            refine XJ.end0 rfl (jobM J E { s with out := s.out ++ [(num, i)] } A2 c2) ?_ ⟨rfl, rfl, A2, c2, rfl⟩
            have hl : (s.out ++ [(num, i)]).length = s.out.length + 1 := by simp
            have hc : outCells (s.out ++ [(num, i)]) = outCells s.out ++ [.int .i64 num, .int .i32 i] := by simp [outCells, intV]
            unfold jobM resV
            simp only [hl, hc]
            exact kGives
          · rintro _ _ h; exact h.elim
        · rintro _ _ h; exact h.elim
      · rintro p _ ⟨N', ⟨hp', rfl⟩, rfl⟩
        obtain ⟨x, hx, rfl⟩ := resE_err hp'
        rw [hx]
        refine kAutoB ?_
        exact XJ.panics (jobM J E s A1 c1) (Gives.front2.trans Gives.drop2) ⟨x, rfl, rfl, A1, c1, rfl⟩
    | lock b hb =>
      obtain ⟨b1, o1, r1, e1, hb1, hrl1, hr1⟩ := hN.at_ 0 (by simp)
      subst e1
      simp only [List.getElem_cons_zero, Nat.zero_mul, Nat.add_zero] at hb1 hr1
      have e0 : stmtJ E 46 num nm [b] (execL E [b]) s = execN E b s := by simp [stmtJ, execL]
      rw [e0]
      refine kAutoB ?_
      (refine CJ.draws mixed 6 [rcel b2 160 _, rcel b3 50 _] (by exact kGives) (dom_of (by kernel_rfl)) ?_)
      ((first | refine kAjB 0 ?_ | refine kAjS 0 ?_); (first | refine kAjB 1 ?_ | refine kAjS 1 ?_); (first | refine kAjB 2 ?_ | refine kAjS 2 ?_))
      (apply AJ.pur (i := 3); exact rfl; exact rfl; exact rfl; exact rfl; exact rfl; exact rfl; exact rfl; exact rfl; exact rfl; (exact OpP.indexAddrC 0 (by exact kEv) rfl (by simp) o1 (by omega)))
      (apply AJ.pur (i := 4); exact rfl; exact rfl; exact rfl; exact rfl; exact rfl; exact rfl; exact rfl; exact rfl; exact rfl; (apply OpP.loadA; exact kEv; exact HasAt.base hb1; exact hrl1))
      (refine AJ.loud1 (i := 5) (by kernel_rfl) (by kernel_rfl) rfl (by kernel_rfl) (by kernel_rfl) rfl rfl rfl rfl rfl rfl (OpS.callO (hblk b (by simp) hb s A1 c1 r1 o hr1) (by exact kEv) inferInstance (by exact kEvl) (by exact rfl) Takes.two) ?_ ?_)
      · rintro _ _ ⟨N', ⟨g1, rfl, A2, c2, rfl⟩, rfl⟩
        refine ⟨by (repeat (first | exact Gives.refl _ | exact Gives.nil _ | (apply Gives.cons; (focus ((first | ((repeat (first | exact Takes.here _ _ | apply Takes.there)); done) | (apply Takes.appR; exact kTake; done) | (apply Takes.appR; apply Takes.appR; exact kTake; done))))) | apply Gives.drop)), ?_⟩
        (refine AJ.done (by kernel_rfl) (by kernel_rfl) rfl (by kernel_rfl) ?_)
        refine kAutoB ?_
        exact XJ.end0 rfl (jobM J E (execN E b s).1 A2 c2) (Gives.front2.trans Gives.drop2) ⟨g1, rfl, A2, c2, rfl⟩
      · rintro p _ ⟨N', ⟨x, g1, rfl, A2, c2, rfl⟩, rfl⟩
        refine kAutoB ?_
        exact XJ.panics (jobM J E (execN E b s).1 A2 c2) (Gives.front2.trans Gives.drop2) ⟨x, g1, rfl, A2, c2, rfl⟩
end Go.Proofs.YtgmapenlgammfaaGreatDoor
