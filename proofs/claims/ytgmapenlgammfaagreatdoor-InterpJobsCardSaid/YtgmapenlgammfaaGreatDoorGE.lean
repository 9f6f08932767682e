import Derived.Test.YtgmapenlgammfaaGreatDoorGD
import Derived.Test.YtgmapenlgammfaaGreatDoorGC
import Derived.Laws.StructEq
set_option linter.all false
/- Statements: their shapes; the execution of a block. -/
namespace Go.Proofs.YtgmapenlgammfaaGreatDoor
open Go

theorem kidsB_three {kids : List Node} {c d e : Int} (h : kidsB kids [c, d, e] = true) : ∃ a b f, kids = [a, b, f] ∧ isB a c = true ∧ isB b d = true ∧ isB f e = true := by
  match kids, h with
  | [], h => simp [kidsB] at h
  | [a], h => simp [kidsB] at h
  | [a, b], h => simp [kidsB] at h
  | [a, b, f], h => simp [kidsB] at h; exact ⟨a, b, f, rfl, h.1, h.2.1, h.2.2⟩
  | a :: b :: d :: e :: r, h => simp [kidsB] at h
theorem form_of {k n : Int} {s : ByteArray} {kids : List Node} {w : Int} (h47 : k ≠ 47) (h : isB (.mk k n s kids) w = true) : ∃ f, formOf k = some f ∧ ¬ bitAnd .u8 f.is w = 0 ∧ f.low ≤ n ∧ n ≤ f.high ∧ kidsB kids f.kids = true := by
  rw [isB, if_neg h47] at h
  cases hf : formOf k with
  | none => rw [hf] at h; cases h
  | some f =>
    rw [hf] at h
    simp only [Bool.and_eq_true, Bool.not_eq_true', decide_eq_false_iff_not, Int.not_lt, beq_eq_false_iff_ne] at h
    obtain ⟨⟨⟨⟨⟨h1, h2⟩, h3⟩, -⟩, -⟩, h5⟩ := h
    exact ⟨f, rfl, h1, h2, h3, h5⟩
theorem form_is {k : Int} {f : Form} (hf : formOf k = some f) : (f.is = 4 ∧ 40 ≤ k ∧ k ≤ 46) ∨ f.is = 1 ∨ f.is = 3 ∧ (k = 2 ∨ k = 3) := by
  unfold formOf at hf
  by_cases e : k = 46
  · rw [if_pos e] at hf; injection hf with hf; subst hf; simp [e]
  rw [if_neg e] at hf
  by_cases e : k = 45
  · rw [if_pos e] at hf; injection hf with hf; subst hf; simp [e]
  rw [if_neg e] at hf
  by_cases e : k = 44
  · rw [if_pos e] at hf; injection hf with hf; subst hf; simp [e]
  rw [if_neg e] at hf
  by_cases e : k = 43
  · rw [if_pos e] at hf; injection hf with hf; subst hf; simp [e]
  rw [if_neg e] at hf
  by_cases e : k = 42
  · rw [if_pos e] at hf; injection hf with hf; subst hf; simp [e]
  rw [if_neg e] at hf
  by_cases e : k = 41
  · rw [if_pos e] at hf; injection hf with hf; subst hf; simp [e]
  rw [if_neg e] at hf
  by_cases e : k = 40
  · rw [if_pos e] at hf; injection hf with hf; subst hf; simp [e]
  rw [if_neg e] at hf
  by_cases e : k = 5
  · rw [if_pos e] at hf; injection hf with hf; subst hf; simp [e]
  rw [if_neg e] at hf
  by_cases e : k = 4
  · rw [if_pos e] at hf; injection hf with hf; subst hf; simp [e]
  rw [if_neg e] at hf
  by_cases e : k = 3
  · rw [if_pos e] at hf; injection hf with hf; subst hf; simp [e]
  rw [if_neg e] at hf
  by_cases e : k = 2
  · rw [if_pos e] at hf; injection hf with hf; subst hf; simp [e]
  rw [if_neg e] at hf
  by_cases e : k = 1
  · rw [if_pos e] at hf; injection hf with hf; subst hf; simp [e]
  rw [if_neg e] at hf
  by_cases e : 6 ≤ k ∧ k ≤ 23
  · rw [if_pos e] at hf; injection hf with hf; subst hf; simp
  · rw [if_neg e] at hf; cases hf
/-- The shapes of a place. -/
theorem place_cases {p : Node} (h : isB p 2 = true) : p.kind = 2 ∨ p.kind = 3 ∧ ∃ a, p.kids = [a] ∧ isB a 1 = true := by
  obtain ⟨k, n, s, kids⟩ := p
  simp only [Node.kind, Node.kids]
  by_cases h47 : k = 47
  · subst h47
    rw [isB, if_pos rfl, show (bitAnd .u8 2 8 != 0) = false by decide] at h
    simp at h
  obtain ⟨f, hf, h1, -, -, h5⟩ := form_of h47 h
  by_cases e : k = 2
  · exact .inl e
  by_cases e3 : k = 3
  · subst e3
    simp [formOf] at hf
    subst hf
    exact .inr ⟨rfl, kidsB_one h5⟩
  · exfalso
    apply h1
    rcases form_is hf with ⟨h, h', h''⟩ | h | ⟨h, h'⟩
    · rw [h]; decide
    · rw [h]; decide
    · omega
/-- The shapes of a statement. -/
inductive Stmt (num : Int) : Int → List Node → Prop
  | assign (p e : Node) : isB p 2 = true → isB e 1 = true → Stmt num 40 [p, e]
  | cond (c a b : Node) : isB c 1 = true → isB a 8 = true → isB b 8 = true → Stmt num 41 [c, a, b]
  | count (b : Node) : isB b 8 = true → 1 ≤ num → num ≤ 1000 → Stmt num 42 [b]
  | while_ (c b : Node) : isB c 1 = true → isB b 8 = true → 1 ≤ num → num ≤ 1000 → Stmt num 43 [c, b]
  | inp (p : Node) : isB p 2 = true → Stmt num 44 [p]
  | out (e : Node) : isB e 1 = true → Stmt num 45 [e]
  | lock (b : Node) : isB b 8 = true → Stmt num 46 [b]
theorem stmt_cases {k n : Int} {s : ByteArray} {kids : List Node} (h : isB (.mk k n s kids) 4 = true) : Stmt n k kids := by
  by_cases h47 : k = 47
  · subst h47
    rw [isB, if_pos rfl, show (bitAnd .u8 4 8 != 0) = false by decide] at h
    simp at h
  obtain ⟨f, hf, h1, h2, h3, h5⟩ := form_of h47 h
  have hf0 := hf
  unfold formOf at hf
  by_cases e : k = 46
  · subst e; simp at hf; subst hf; obtain ⟨b, rfl, hb⟩ := kidsB_one h5; exact .lock b hb
  by_cases e : k = 45
  · subst e; simp at hf; subst hf; obtain ⟨b, rfl, hb⟩ := kidsB_one h5; exact .out b hb
  by_cases e : k = 44
  · subst e; simp at hf; subst hf; obtain ⟨b, rfl, hb⟩ := kidsB_one h5; exact .inp b hb
  by_cases e : k = 43
  · subst e; simp at hf; subst hf; obtain ⟨a, b, rfl, ha, hb⟩ := kidsB_two h5; exact .while_ a b ha hb h2 h3
  by_cases e : k = 42
  · subst e; simp at hf; subst hf; obtain ⟨b, rfl, hb⟩ := kidsB_one h5; exact .count b hb h2 h3
  by_cases e : k = 41
  · subst e; simp at hf; subst hf; obtain ⟨a, b, c, rfl, ha, hb, hc⟩ := kidsB_three h5; exact .cond a b c ha hb hc
  by_cases e : k = 40
  · subst e; simp at hf; subst hf; obtain ⟨a, b, rfl, ha, hb⟩ := kidsB_two h5; exact .assign a b ha hb
  · exfalso
    apply h1
    rcases form_is hf with ⟨h, h', h''⟩ | h | ⟨h, h'⟩
    · omega
    · rw [h]; decide
    · rcases h' with h' | h' <;> subst h' <;> simp [formOf] at hf0 <;> (subst hf0; exact absurd h1 (by decide))
theorem block_cases {k n : Int} {s : ByteArray} {kids : List Node} (h : isB (.mk k n s kids) 8 = true) : k = 47 ∧ ∀ m ∈ kids, isB m 4 = true := by
  by_cases h47 : k = 47
  · subst h47
    rw [isB, if_pos rfl] at h
    simp only [Bool.and_eq_true, stmtsB_all, List.all_eq_true] at h
    exact ⟨rfl, h.2⟩
  · exfalso
    obtain ⟨f, hf, h1, -⟩ := form_of h47 h
    apply h1
    rcases form_is hf with ⟨h, h', h''⟩ | h | ⟨h, h'⟩
    · rw [h]; decide
    · rw [h]; decide
    · rw [h]; decide
/-- A node's execution by the machine is what execN says. -/
def ExecOK (w0 : World) (J : JP) (E : JE) (lens : List Nat) (f : FuncId) (n : Node) : Prop :=
  ∀ s A c cs, OKJ E lens s → NodeR w0 n cs → Spec Tryz.prog w0 f #[.pointer (some ⟨J.bm, 0, none⟩), .agg cs.toArray] (jobM J E s A c) (JRes J E (execN E n s))
theorem block_spec (w0 : World) {J : JP} {E : JE} {lens : List Nat} (k : JobF w0 J E lens) (n : Node) (hn : n.size < 4611686018427387904) (hB : isB n 8 = true) (hk : ∀ m ∈ n.kids, ExecOK w0 J E lens 83 m) :
    ExecOK w0 J E lens 50 n := by
  intro s A c cs o hR
  obtain ⟨B, cp, rfl, hcap, hN⟩ := hR.kids
  have hkl := n.kids_le
  obtain ⟨kd, num, nm, kids⟩ := n
  simp only [Node.kind, Node.num, Node.name, Node.kids] at *
  obtain ⟨rfl, -⟩ := block_cases hB
  have e : execN E (.mk 47 num nm kids) s = seqJ (execL E kids) s := by rw [execN, nodeJ, if_pos rfl]
  rw [e]
  refine Spec.enter (args := [_, _]) Tryz.func50 rfl rfl rfl (fun F => ?_)
  refine kAutoB ?_
  (apply RL.boxR; exact kEv; exact rfl; intro b3)
  refine kAutoB ?_
  refine CJ.loop (σ := Nat × JS × Option Addr × Nat) (fun t => t.1 ≤ kids.length ∧ OKJ E lens t.2.1 ∧ seqJ (execL E kids) s = seqJ (execL E (kids.drop t.1)) t.2.1)
    (fun t => [(9, .int .i64 (t.1 : Int)), (7, .slice B kids.length cp), (8, .int .i64 kids.length), (0, .pointer (some ⟨J.bm, 0, none⟩))])
    (fun t => jobM J E t.2.1 t.2.2.1 t.2.2.2 ++ F) (fun t => kids.length - t.1) (0, s, A, c) ⟨Nat.zero_le _, o, rfl⟩ (by exact kEsub) (Gives.drop (Gives.refl _)) ?_
  rintro ⟨i, t, A1, c1⟩ ⟨hi, ho, he⟩
  simp only at hi ho he
  refine kAutoB ?_
  cases hlt : decide ((i : Int) < (kids.length : Int))
  · have hge : i = kids.length := by have := of_decide_eq_false hlt; omega
    refine kAutoB ?_
    rw [he, hge, List.drop_length]
    exact XJ.end0 rfl (jobM J E t A1 c1) (Gives.refl _) ⟨rfl, rfl, A1, c1, rfl⟩
  · have hlt' : i < kids.length := by have := of_decide_eq_true hlt; omega
    obtain ⟨b, q, r, e1, hb, hrl, hr⟩ := hN.at_ i hlt'
    subst e1
    have hd : kids.drop i = kids[i] :: kids.drop (i + 1) := List.drop_eq_getElem_cons hlt'
    obtain ⟨A0, cap0, hr0, _⟩ := hr.kids
    rw [hd, execL, seqJ] at he
    refine kAutoB ?_
    apply RL.pur; (apply OpP.indexAddr; exact kEv; exact kEv; exact hlt'); exact rfl
    apply RL.pur; (apply OpP.loadA; exact kEv; exact HasAt.base hb; exact hrl); exact rfl
    (apply RL.alloc; exact rfl; exact rfl; intro b5)
    refine kAutoB ?_
    (apply RL.storeW; exact kEv; exact kEv; exact Takes.here _ _; exact hrl; exact rfl; exact (by rw [hr0]; rfl))
    refine kAutoB ?_
    (apply RL.callKP; exact kEv; exact inferInstance; exact kEvl; exact Takes.there1 (Takes.app _ _); exact hk _ (List.getElem_mem hlt') t A1 c1 r ho hr; exact rfl)
    · rintro _ _ ⟨h1, rfl, A2, c2, rfl⟩
      refine kAutoB ?_
      rw [i64_succ i (by omega)]
      rw [bindJ_none h1] at he
      exact XJ.round (i + 1, _, A2, c2) ⟨by simp only; omega, execN_ok _ k.inp ho, he⟩ (by simp only; omega) (by exact kEsub) (Takes.drop2 _ _ _)
    · rintro p _ ⟨x, h1, rfl, A2, c2, rfl⟩
      refine kAutoB ?_
      rw [bindJ_some h1] at he
      rw [he]
      exact XJ.panics (jobM J E (execN E kids[i] t).1 A2 c2) (Takes.drop2 _ _ _) ⟨x, rfl, rfl, A2, c2, rfl⟩
end Go.Proofs.YtgmapenlgammfaaGreatDoor

/- The machine's exec: a statement. -/
namespace Go.Proofs.YtgmapenlgammfaaGreatDoor
open Go
theorem get_spec (w0 : World) {J : JP} {E : JE} {lens : List Nat} (k : JobF w0 J E lens) {s : JS} (o : OKJ E lens s) (A : Option Addr) (c : Nat) (b2 b3 : Nat)
    (n : Node) (cs : List Value) (hR : NodeR w0 n cs) (hn : n.size < 4611686018427387904) (p e : Node) (hk : n.kids = [p, e]) (he : isB e 1 = true) :
    Spec Tryz.prog w0 121 #[.pointer (some ⟨b2, 0, none⟩), .pointer (some ⟨b3, 0, none⟩)]
      (jobM J E s A c ++ [rcel b2 160 [.pointer (some ⟨J.bm, 0, none⟩)], rcel b3 50 cs])
      (GRes J E [rcel b2 160 [.pointer (some ⟨J.bm, 0, none⟩)], rcel b3 50 cs] (s, evJ E s e)) := by
  obtain ⟨B, cp, rfl, hcap, hN⟩ := hR.kids
  obtain ⟨kd, num, nm, kids⟩ := n
  simp only [Node.kind, Node.num, Node.name, Node.kids] at *
  subst hk
  obtain ⟨b1, o1, r1, e1, hb1, hrl1, hr1⟩ := hN.at_ 1 (by simp)
  subst e1
  simp only [List.getElem_cons_succ, List.getElem_cons_zero, Nat.one_mul] at hb1 hr1
  have hes : e.size < (Node.mk kd num nm [p, e]).size := Node.size_kid (n := .mk kd num nm [p, e]) (by simp [Node.kids])
  have hev := eval_own w0 k o A c e r1 (by omega) hr1 he
  refine Spec.enter (args := [_, _]) Tryz.func121 rfl rfl rfl (fun F => ?_)
  refine CJ.gives Gives.front2r ?_
  refine kAutoB ?_
  (refine CJ.draws mixed 9 [rcel b2 160 _, rcel b3 50 _, rcel J.bm 114 (machV J E)] (by exact kGives) (dom_of (by kernel_rfl)) ?_)
  ((first | refine kAjB 0 ?_ | refine kAjS 0 ?_); (first | refine kAjB 1 ?_ | refine kAjS 1 ?_); (first | refine kAjB 2 ?_ | refine kAjS 2 ?_); (first | refine kAjB 3 ?_ | refine kAjS 3 ?_); (first | refine kAjB 4 ?_ | refine kAjS 4 ?_); (first | refine kAjB 5 ?_ | refine kAjS 5 ?_))
  (apply AJ.pur (i := 6); exact rfl; exact rfl; exact rfl; exact rfl; exact rfl; exact rfl; exact rfl; exact rfl; exact rfl; (exact OpP.indexAddrC 1 (by exact kEv) rfl (by simp) (o1 + 4) (by omega)))
  (apply AJ.pur (i := 7); exact rfl; exact rfl; exact rfl; exact rfl; exact rfl; exact rfl; exact rfl; exact rfl; exact rfl; (apply OpP.loadA; exact kEv; exact HasAt.base hb1; exact hrl1))
  (refine AJ.loud1 (i := 8) (by kernel_rfl) (by kernel_rfl) rfl (by kernel_rfl) (by kernel_rfl) rfl rfl rfl rfl rfl rfl (OpS.callO hev (by exact kEv) inferInstance (by exact kEvl) (by exact rfl) Takes.two) ?_ ?_)
  · rintro x _ ⟨N', ⟨hx, rfl⟩, rfl⟩
    refine ⟨by (repeat (first | exact Gives.refl _ | exact Gives.nil _ | (apply Gives.cons; (focus ((first | ((repeat (first | exact Takes.here _ _ | apply Takes.there)); done) | (apply Takes.appR; exact kTake; done) | (apply Takes.appR; apply Takes.appR; exact kTake; done))))) | apply Gives.drop)), ?_⟩
    obtain ⟨i, hi, rfl⟩ := resE_ok hx
    (refine AJ.tail (by kernel_rfl) (by kernel_rfl) rfl (by kernel_rfl) (by kernel_rfl) (by kernel_rfl) ?_)
    refine kAutoB ?_
    refine XJ.gives Gives.front2 ?_
    exact XJ.ret1 rfl rfl (jobM J E s A c ++ [_, _]) (by rw [List.append_assoc]; exact Gives.front2') ⟨i, hi, rfl, A, c, rfl⟩
  · rintro p _ ⟨N', ⟨hp', rfl⟩, rfl⟩
    obtain ⟨x, hx, rfl⟩ := resE_err hp'
    refine kAutoB ?_
    refine XJ.gives Gives.front2 ?_
    exact XJ.panics (jobM J E s A c ++ [_, _]) (by rw [List.append_assoc]; exact Gives.front2') ⟨x, hx, rfl, A, c, rfl⟩

theorem vars_del (s : JS) (nm : ByteArray) : del (fun n => (s.vars n).map intV) nm = fun n => ((delI s.vars nm) n).map intV := by
  funext n
  unfold del delI
  by_cases h : n = nm
  · simp [h]
  · simp [h]
theorem stepJ_of {E : JE} {s : JS} {f : JS → JR} (h : (stepJ E s).2 = none) : bindJ (stepJ E s) f = f (stepJ E s).1 := bindJ_none h
theorem exec_spec (w0 : World) {J : JP} {E : JE} {lens : List Nat} (k : JobF w0 J E lens) : ∀ (m : Nat) (n : Node), n.size ≤ m → n.size < 4611686018427387904 → isB n 4 = true → ExecOK w0 J E lens 83 n := by
  intro m
  induction m with
  | zero => intro n h; have := n.size_pos; omega
  | succ m ih =>
    intro n hm hn hB s A c cs o0 hR
    have hRR := hR
    have hblk : ∀ b ∈ n.kids, isB b 8 = true → ExecOK w0 J E lens 50 b := by
      intro b hb h8
      have h1 := Node.size_kid hb
      obtain ⟨kd, num, nm, kids⟩ := b
      refine block_spec w0 k _ (by omega) h8 ?_
      intro q hq
      have h2 := Node.size_kid hq
      exact ih q (by omega) (by omega) ((block_cases h8).2 q hq)
    obtain ⟨B, cp, rfl, hcap, hN⟩ := hR.kids
    have hnn := hn
    obtain ⟨kd, num, nm, kids⟩ := n
    simp only [Node.kind, Node.num, Node.name, Node.kids] at *
    have h47 : ¬ kd = 47 := by intro h; subst h; rw [isB, if_pos rfl, show (bitAnd .u8 4 8 != 0) = false by decide] at hB; simp at hB
    have e : execN E (.mk kd num nm kids) s = bindJ (stepJ E s) (stmtJ E kd num nm kids (execL E kids)) := by rw [execN, nodeJ, if_neg h47]
    rw [e]
    refine Spec.enter (args := [_, _]) Tryz.func83 rfl rfl rfl (fun F => ?_)
    refine kAutoB ?_
    (apply RL.box1; exact kEv; exact rfl; exact rfl; intro b2)
    refine RL.freeze (Takes.here _ _) ?_
    refine kAutoB ?_
    (apply RL.boxR; exact kEv; exact rfl; intro b3)
    refine RL.gives (M' := rcel b2 160 [.pointer (some ⟨J.bm, 0, none⟩)] :: rcel b3 50 [.int .u8 kd, .int .i64 num, .string nm, .slice B kids.length cp] :: (jobM J E s A c ++ F)) (by exact kGives) ?_
    refine kAutoB ?_
    (apply RL.callKP; exact kEv; exact inferInstance; exact kEvl; exact Takes.two; exact step_spec w0 k o0 A c; exact rfl)
    rotate_left
    · rintro p _ ⟨x, h1, rfl, A1, c1, rfl⟩
      refine kAutoB ?_
      rw [bindJ_some h1]
      exact XJ.panics (jobM J E (stepJ E s).1 A1 c1) (Gives.front2.trans Gives.drop2) ⟨x, rfl, rfl, A1, c1, rfl⟩
    rintro _ _ ⟨h1, rfl, A1, c1, rfl⟩
    rw [bindJ_none h1]
    have o := (stepJ_ok o0).1
    have hstp := (stepJ_ok o0).2 h1
    generalize (stepJ E s).1 = s at o hstp ⊢
    clear h1 o0 e
    refine RL.gives Gives.front2 ?_
    refine kAutoB ?_
    have hcase := stmt_cases hB
    cases hcase with
    | assign p e hp he =>
      obtain ⟨b1, o1, r1, e1, hb1, hrl1, hr1⟩ := hN.at_ 0 (by simp)
      subst e1
      simp only [List.getElem_cons_zero, Nat.zero_mul, Nat.add_zero] at hb1 hr1
      have hps : p.size < (Node.mk 40 num nm [p, e]).size := Node.size_kid (n := .mk 40 num nm [p, e]) (by simp [Node.kids])
      have hst := store_spec w0 k o A1 c1 [rcel b2 160 [.pointer (some ⟨J.bm, 0, none⟩)], rcel b3 50 [.int .u8 40, .int .i64 num, .string nm, .slice (some ⟨b1, o1, none⟩) [p, e].length cp]] p r1 hr1 (by omega) (place_cases hp) true (fun s => (s, evJ E s e)) 121 [] [.pointer (some ⟨b2, 0, none⟩), .pointer (some ⟨b3, 0, none⟩)] inferInstance rfl (get_spec w0 k o A1 c1 b2 b3 _ _ hRR hnn p e rfl he)
      have e0 : stmtJ E 40 num nm [p, e] (execL E [p, e]) s = storeJ E p true (fun s => (s, evJ E s e)) s := by simp [stmtJ, kid]
      rw [e0]
      refine kAutoB ?_
      (refine CJ.draws mixed 7 [rcel b2 160 _, rcel b3 50 _] (by exact kGives) (dom_of (by kernel_rfl)) ?_)
      ((first | refine kAjB 0 ?_ | refine kAjS 0 ?_); (first | refine kAjB 1 ?_ | refine kAjS 1 ?_); (first | refine kAjB 2 ?_ | refine kAjS 2 ?_))
      (apply AJ.pur (i := 3); exact rfl; exact rfl; exact rfl; exact rfl; exact rfl; exact rfl; exact rfl; exact rfl; exact rfl; (exact OpP.indexAddrC 0 (by exact kEv) rfl (by simp) o1 (by omega)))
      (apply AJ.pur (i := 4); exact rfl; exact rfl; exact rfl; exact rfl; exact rfl; exact rfl; exact rfl; exact rfl; exact rfl; (apply OpP.loadA; exact kEv; exact HasAt.base hb1; exact hrl1))
      ((first | refine kAjB 5 ?_ | refine kAjS 5 ?_))
      (refine AJ.loud1 (i := 6) (by kernel_rfl) (by kernel_rfl) rfl (by kernel_rfl) (by kernel_rfl) rfl rfl rfl rfl rfl rfl (OpS.callO hst (by exact kEv) inferInstance (by exact kEvl) (by exact rfl) Takes.two') ?_ ?_)
      · rintro _ _ ⟨N', ⟨g1, rfl, A2, c2, rfl⟩, rfl⟩
        refine ⟨Gives.front2r.trans (by exact kGives), ?_⟩
        (refine AJ.done (by kernel_rfl) (by kernel_rfl) rfl (by kernel_rfl) ?_)
        refine kAutoB ?_
        exact XJ.end0 rfl (jobM J E (storeJ E p true (fun s => (s, evJ E s e)) s).1 A2 c2) (Gives.front2r.trans Gives.drop2) ⟨g1, rfl, A2, c2, rfl⟩
      · rintro q _ ⟨N', ⟨x, g1, rfl, A2, c2, rfl⟩, rfl⟩
        refine kAutoB ?_
        exact XJ.panics (jobM J E (storeJ E p true (fun s => (s, evJ E s e)) s).1 A2 c2) (Gives.front2r.trans Gives.drop2) ⟨x, g1, rfl, A2, c2, rfl⟩
    | cond q a b hq ha hb =>
      obtain ⟨b1, o1, r1, e1, hb1, hrl1, hr1⟩ := hN.at_ 0 (by simp)
      obtain ⟨b4, o4, r4, e4, hb4, hrl4, hr4⟩ := hN.at_ 1 (by simp)
      obtain ⟨b6, o6, r6, e6, hb6, hrl6, hr6⟩ := hN.at_ 2 (by simp)
      subst e1
      obtain ⟨rfl, rfl⟩ : b1 = b4 ∧ o1 = o4 := by
        simp only [Option.some.injEq, Addr.mk.injEq, and_true] at e4
        exact e4
      obtain ⟨rfl, rfl⟩ : b1 = b6 ∧ o1 = o6 := by
        simp only [Option.some.injEq, Addr.mk.injEq, and_true] at e6
        exact e6
      simp only [List.getElem_cons_zero, List.getElem_cons_succ, Nat.zero_mul, Nat.add_zero, Nat.one_mul] at hb1 hb4 hb6 hr1 hr4 hr6
      have hqs : q.size < (Node.mk 41 num nm [q, a, b]).size := Node.size_kid (n := .mk 41 num nm [q, a, b]) (by simp [Node.kids])
      have hev := eval_own w0 k o A1 c1 q r1 (by omega) hr1 hq
      have e0 : stmtJ E 41 num nm [q, a, b] (execL E [q, a, b]) s = ifJ E q (execN E a) (execN E b) s := by simp [stmtJ, kid, execL]
      rw [e0]
      unfold ifJ
      refine kAutoB ?_
      (refine CJ.draws mixed 10 [rcel b2 160 _, rcel b3 50 _, rcel J.bm 114 (machV J E)] (by exact kGives) (dom_of (by kernel_rfl)) ?_)
      ((first | refine kAjB 0 ?_ | refine kAjS 0 ?_); (first | refine kAjB 1 ?_ | refine kAjS 1 ?_); (first | refine kAjB 2 ?_ | refine kAjS 2 ?_); (first | refine kAjB 3 ?_ | refine kAjS 3 ?_); (first | refine kAjB 4 ?_ | refine kAjS 4 ?_); (first | refine kAjB 5 ?_ | refine kAjS 5 ?_))
      (apply AJ.pur (i := 6); exact rfl; exact rfl; exact rfl; exact rfl; exact rfl; exact rfl; exact rfl; exact rfl; exact rfl; (exact OpP.indexAddrC 0 (by exact kEv) rfl (by simp) o1 (by omega)))
      (apply AJ.pur (i := 7); exact rfl; exact rfl; exact rfl; exact rfl; exact rfl; exact rfl; exact rfl; exact rfl; exact rfl; (apply OpP.loadA; exact kEv; exact HasAt.base hb1; exact hrl1))
      (refine AJ.loud1 (i := 8) (by kernel_rfl) (by kernel_rfl) rfl (by kernel_rfl) (by kernel_rfl) rfl rfl rfl rfl rfl rfl (OpS.callO hev (by exact kEv) inferInstance (by exact kEvl) (by exact rfl) Takes.two) ?_ ?_)
      · rintro x _ ⟨N', ⟨hx, rfl⟩, rfl⟩
        refine ⟨by (repeat (first | exact Gives.refl _ | exact Gives.nil _ | (apply Gives.cons; (focus ((first | ((repeat (first | exact Takes.here _ _ | apply Takes.there)); done) | (apply Takes.appR; exact kTake; done) | (apply Takes.appR; apply Takes.appR; exact kTake; done))))) | apply Gives.drop)), ?_⟩
        obtain ⟨i, hi, rfl⟩ := resE_ok hx
        rw [hi]
        ((first | refine kAjB 9 ?_ | refine kAjS 9 ?_))
        (refine AJ.done (by kernel_rfl) (by kernel_rfl) rfl (by kernel_rfl) ?_)
        simp only
        refine XJ.gives Gives.front2 ?_
        cases hz : (i != 0)
        · have hz' : i = 0 := by simpa using hz
          rw [if_pos hz']
          refine kAutoB ?_
          (refine CJ.draws mixed 6 [rcel b2 160 _, rcel b3 50 _] (by exact kGives) (dom_of (by kernel_rfl)) ?_)
          ((first | refine kAjB 0 ?_ | refine kAjS 0 ?_); (first | refine kAjB 1 ?_ | refine kAjS 1 ?_); (first | refine kAjB 2 ?_ | refine kAjS 2 ?_))
          (apply AJ.pur (i := 3); exact rfl; exact rfl; exact rfl; exact rfl; exact rfl; exact rfl; exact rfl; exact rfl; exact rfl; (exact OpP.indexAddrC 2 (by exact kEv) rfl (by simp) (o1 + 8) (by omega)))
          (apply AJ.pur (i := 4); exact rfl; exact rfl; exact rfl; exact rfl; exact rfl; exact rfl; exact rfl; exact rfl; exact rfl; (apply OpP.loadA; exact kEv; exact HasAt.base hb6; exact hrl6))
          (refine AJ.loud1 (i := 5) (by kernel_rfl) (by kernel_rfl) rfl (by kernel_rfl) (by kernel_rfl) rfl rfl rfl rfl rfl rfl (OpS.callO (hblk b (by simp) hb s A1 c1 r6 o hr6) (by exact kEv) inferInstance (by exact kEvl) (by exact rfl) Takes.two) ?_ ?_)
          · rintro _ _ ⟨N', ⟨g1, rfl, A2, c2, rfl⟩, rfl⟩
            refine ⟨by (repeat (first | exact Gives.refl _ | exact Gives.nil _ | (apply Gives.cons; (focus ((first | ((repeat (first | exact Takes.here _ _ | apply Takes.there)); done) | (apply Takes.appR; exact kTake; done) | (apply Takes.appR; apply Takes.appR; exact kTake; done))))) | apply Gives.drop)), ?_⟩
            (refine AJ.done (by kernel_rfl) (by kernel_rfl) rfl (by kernel_rfl) ?_)
            refine kAutoB ?_
            exact XJ.end0 rfl (jobM J E (execN E b s).1 A2 c2) (Gives.front2.trans Gives.drop2) ⟨g1, rfl, A2, c2, rfl⟩
          · rintro p _ ⟨N', ⟨x, g1, rfl, A2, c2, rfl⟩, rfl⟩
            refine kAutoB ?_
            exact XJ.panics (jobM J E (execN E b s).1 A2 c2) (Gives.front2.trans Gives.drop2) ⟨x, g1, rfl, A2, c2, rfl⟩
        · have hz' : ¬ i = 0 := by simpa using hz
          rw [if_neg hz']
          refine kAutoB ?_
          (refine CJ.draws mixed 6 [rcel b2 160 _, rcel b3 50 _] (by exact kGives) (dom_of (by kernel_rfl)) ?_)
          ((first | refine kAjB 0 ?_ | refine kAjS 0 ?_); (first | refine kAjB 1 ?_ | refine kAjS 1 ?_); (first | refine kAjB 2 ?_ | refine kAjS 2 ?_))
          (apply AJ.pur (i := 3); exact rfl; exact rfl; exact rfl; exact rfl; exact rfl; exact rfl; exact rfl; exact rfl; exact rfl; (exact OpP.indexAddrC 1 (by exact kEv) rfl (by simp) (o1 + 4) (by omega)))
          (apply AJ.pur (i := 4); exact rfl; exact rfl; exact rfl; exact rfl; exact rfl; exact rfl; exact rfl; exact rfl; exact rfl; (apply OpP.loadA; exact kEv; exact HasAt.base hb4; exact hrl4))
          (refine AJ.loud1 (i := 5) (by kernel_rfl) (by kernel_rfl) rfl (by kernel_rfl) (by kernel_rfl) rfl rfl rfl rfl rfl rfl (OpS.callO (hblk a (by simp) ha s A1 c1 r4 o hr4) (by exact kEv) inferInstance (by exact kEvl) (by exact rfl) Takes.two) ?_ ?_)
          · rintro _ _ ⟨N', ⟨g1, rfl, A2, c2, rfl⟩, rfl⟩
            refine ⟨by (repeat (first | exact Gives.refl _ | exact Gives.nil _ | (apply Gives.cons; (focus ((first | ((repeat (first | exact Takes.here _ _ | apply Takes.there)); done) | (apply Takes.appR; exact kTake; done) | (apply Takes.appR; apply Takes.appR; exact kTake; done))))) | apply Gives.drop)), ?_⟩
            (refine AJ.done (by kernel_rfl) (by kernel_rfl) rfl (by kernel_rfl) ?_)
            refine kAutoB ?_
            exact XJ.end0 rfl (jobM J E (execN E a s).1 A2 c2) (Gives.front2.trans Gives.drop2) ⟨g1, rfl, A2, c2, rfl⟩
          · rintro p _ ⟨N', ⟨x, g1, rfl, A2, c2, rfl⟩, rfl⟩
            refine kAutoB ?_
            exact XJ.panics (jobM J E (execN E a s).1 A2 c2) (Gives.front2.trans Gives.drop2) ⟨x, g1, rfl, A2, c2, rfl⟩
      · rintro p _ ⟨N', ⟨hp', rfl⟩, rfl⟩
        obtain ⟨x, hx, rfl⟩ := resE_err hp'
        rw [hx]
        refine kAutoB ?_
        exact XJ.panics (jobM J E s A1 c1) (Gives.front2.trans Gives.drop2) ⟨x, rfl, rfl, A1, c1, rfl⟩
    | count b hb h1 h2 =>
      obtain ⟨b1, o1, r1, e1, hb1, hrl1, hr1⟩ := hN.at_ 0 (by simp)
      subst e1
      simp only [List.getElem_cons_zero, Nat.zero_mul, Nat.add_zero] at hb1 hr1
      have e0 : stmtJ E 42 num nm [b] (execL E [b]) s = forJ E nm (execN E b) num.toNat 0 s := by simp [stmtJ, execL]
      rw [e0]
      refine kAutoB ?_
      refine CJ.loop (σ := Nat × JS × Option Addr × Nat) (fun t => (t.1 : Int) ≤ num ∧ OKJ E lens t.2.1 ∧ forJ E nm (execN E b) num.toNat 0 s = forJ E nm (execN E b) (num.toNat - t.1) (t.1 : Int) t.2.1)
        (fun t => [(48, .int .i64 (t.1 : Int)), (47, .int .i64 num), (2, .pointer (some ⟨b2, 0, none⟩)), (3, .pointer (some ⟨b3, 0, none⟩))])
        (fun t => rcel b2 160 [.pointer (some ⟨J.bm, 0, none⟩)] :: rcel b3 50 [.int .u8 42, .int .i64 num, .string nm, .slice (some ⟨b1, o1, none⟩) [b].length cp] :: (jobM J E t.2.1 t.2.2.1 t.2.2.2 ++ F)) (fun t => num.toNat - t.1) (0, s, A1, c1) ⟨by simp only; omega, o, rfl⟩ (by exact kEsub) (Gives.refl _) ?_
      rintro ⟨i, s1, A2, c2⟩ ⟨hi, o, he⟩
      simp only at hi o he
      refine kAutoB ?_
      cases hlt : decide ((i : Int) < num)
      · have hlt' := of_decide_eq_false hlt
        rw [show num.toNat - i = 0 by omega, forJ] at he
        rw [he]
        refine kAutoB ?_
        (refine CJ.draws mixed 8 [rcel b2 160 _, rcel b3 50 _, rcel J.bm 114 (machV J E)] (by exact kGives) (dom_of (by kernel_rfl)) ?_)
        ((first | refine kAjB 0 ?_ | refine kAjS 0 ?_); (first | refine kAjB 1 ?_ | refine kAjS 1 ?_); (first | refine kAjB 2 ?_ | refine kAjS 2 ?_); (first | refine kAjB 3 ?_ | refine kAjS 3 ?_); (first | refine kAjB 4 ?_ | refine kAjS 4 ?_); (first | refine kAjB 5 ?_ | refine kAjS 5 ?_); (first | refine kAjB 6 ?_ | refine kAjS 6 ?_))
        (refine AJ.loud0 (i := 7) (by kernel_rfl) (by kernel_rfl) rfl (by kernel_rfl) (by kernel_rfl) rfl rfl rfl rfl (OpS.delete (enc := Value.string) (by exact kEv) (by exact kEv) (by exact kTake)) ?_ ?_)
        · rintro _ _ rfl
          refine ⟨by (repeat (first | exact Gives.refl _ | exact Gives.nil _ | (apply Gives.cons; (focus ((first | ((repeat (first | exact Takes.here _ _ | apply Takes.there)); done) | (apply Takes.appR; exact kTake; done) | (apply Takes.appR; apply Takes.appR; exact kTake; done))))) | apply Gives.drop)), ?_⟩
          (refine AJ.done (by kernel_rfl) (by kernel_rfl) rfl (by kernel_rfl) ?_)
          refine kAutoB ?_
          refine XJ.end0 rfl (jobM J E { s1 with vars := delI s1.vars nm } A2 c2) ?_ ⟨rfl, rfl, A2, c2, rfl⟩
          rw [vars_del]
          exact kGives
        · rintro _ _ h; exact h.elim
      · have hlt' := of_decide_eq_true hlt
        obtain ⟨q, hq⟩ : ∃ q, num.toNat - i = q + 1 := ⟨num.toNat - i - 1, by omega⟩
        rw [hq, forJ] at he
        refine kAutoB ?_
        (apply RL.callKP; exact kEv; exact inferInstance; exact kEvl; exact Takes.two; exact step_spec w0 k o A2 c2; exact rfl)
        rotate_left
        · rintro p _ ⟨x, h1, rfl, A3, c3, rfl⟩
          refine kAutoB ?_
          rw [bindJ_some h1] at he
          rw [he]
          exact XJ.panics (jobM J E (stepJ E s1).1 A3 c3) (Gives.front2.trans Gives.drop2) ⟨x, rfl, rfl, A3, c3, rfl⟩
        rintro _ _ ⟨h1, rfl, A3, c3, rfl⟩
        rw [bindJ_none h1] at he
        have o2 := (stepJ_ok o).1
        generalize (stepJ E s1).1 = s2 at o2 he ⊢
        refine RL.gives Gives.front2 ?_
        refine kAutoB ?_
        (refine CJ.draws mixed 9 [rcel b2 160 _, rcel b3 50 _, rcel J.bm 114 (machV J E)] (by exact kGives) (dom_of (by kernel_rfl)) ?_)
        ((first | refine kAjB 0 ?_ | refine kAjS 0 ?_); (first | refine kAjB 1 ?_ | refine kAjS 1 ?_); (first | refine kAjB 2 ?_ | refine kAjS 2 ?_); (first | refine kAjB 3 ?_ | refine kAjS 3 ?_); (first | refine kAjB 4 ?_ | refine kAjS 4 ?_); (first | refine kAjB 5 ?_ | refine kAjS 5 ?_); (first | refine kAjB 6 ?_ | refine kAjS 6 ?_); (first | refine kAjB 7 ?_ | refine kAjS 7 ?_); (first | refine kAjB 8 ?_ | refine kAjS 8 ?_))
        (refine AJ.tail (by kernel_rfl) (by kernel_rfl) rfl (by kernel_rfl) (by kernel_rfl) (by kernel_rfl) ?_)
        (apply RL.mapUpdate; exact kEv; exact kEv; exact kEv; exact kTake)
        refine kAutoB ?_
        rw [vars_set]
        have o3 := o2.setVar nm (I32.wrap (i : Int))
        refine CJ.gives (M' := rcel b2 160 [.pointer (some ⟨J.bm, 0, none⟩)] :: rcel b3 50 [.int .u8 42, .int .i64 num, .string nm, .slice (some ⟨b1, o1, none⟩) [b].length cp] :: (jobM J E (setVar s2 nm (IntKind.i32.wrap (i : Int))) A3 c3 ++ F)) (by exact kGives) ?_
        generalize setVar s2 nm (IntKind.i32.wrap (i : Int)) = s3 at o3 he ⊢
        (refine CJ.draws mixed 6 [rcel b2 160 _, rcel b3 50 _] (by exact kGives) (dom_of (by kernel_rfl)) ?_)
        ((first | refine kAjB 0 ?_ | refine kAjS 0 ?_); (first | refine kAjB 1 ?_ | refine kAjS 1 ?_); (first | refine kAjB 2 ?_ | refine kAjS 2 ?_))
        (apply AJ.pur (i := 3); exact rfl; exact rfl; exact rfl; exact rfl; exact rfl; exact rfl; exact rfl; exact rfl; exact rfl; (exact OpP.indexAddrC 0 (by exact kEv) rfl (by simp) o1 (by omega)))
        (apply AJ.pur (i := 4); exact rfl; exact rfl; exact rfl; exact rfl; exact rfl; exact rfl; exact rfl; exact rfl; exact rfl; (apply OpP.loadA; exact kEv; exact HasAt.base hb1; exact hrl1))
        (refine AJ.loud1 (i := 5) (by kernel_rfl) (by kernel_rfl) rfl (by kernel_rfl) (by kernel_rfl) rfl rfl rfl rfl rfl rfl (OpS.callO (hblk b (by simp) hb s3 A3 c3 r1 o3 hr1) (by exact kEv) inferInstance (by exact kEvl) (by exact rfl) Takes.two) ?_ ?_)
        · rintro _ _ ⟨N', ⟨g1, rfl, A4, c4, rfl⟩, rfl⟩
          refine ⟨by (repeat (first | exact Gives.refl _ | exact Gives.nil _ | (apply Gives.cons; (focus ((first | ((repeat (first | exact Takes.here _ _ | apply Takes.there)); done) | (apply Takes.appR; exact kTake; done) | (apply Takes.appR; apply Takes.appR; exact kTake; done))))) | apply Gives.drop)), ?_⟩
          (refine AJ.done (by kernel_rfl) (by kernel_rfl) rfl (by kernel_rfl) ?_)
          refine kAutoB ?_
          rw [bindJ_none g1] at he
          rw [i64_succ i (by omega)]
          refine XJ.round (i + 1, (execN E b s3).1, A4, c4) ⟨by simp only; omega, execN_ok b k.inp o3, ?_⟩ (by simp only; omega) (by exact kEsub) Gives.front2
          simp only
          rw [he, show num.toNat - (i + 1) = q by omega]
          rfl
        · rintro p _ ⟨N', ⟨x, g1, rfl, A4, c4, rfl⟩, rfl⟩
          refine kAutoB ?_
          rw [bindJ_some g1] at he
          rw [he]
          exact XJ.panics (jobM J E (execN E b s3).1 A4 c4) (Gives.front2.trans Gives.drop2) ⟨x, rfl, rfl, A4, c4, rfl⟩
    | while_ q b hq hb h1 h2 =>
      obtain ⟨b1, o1, r1, e1, hb1, hrl1, hr1⟩ := hN.at_ 0 (by simp)
      obtain ⟨b4, o4, r4, e4, hb4, hrl4, hr4⟩ := hN.at_ 1 (by simp)
      subst e1
      obtain ⟨rfl, rfl⟩ : b1 = b4 ∧ o1 = o4 := by
        simp only [Option.some.injEq, Addr.mk.injEq, and_true] at e4
        exact e4
      simp only [List.getElem_cons_zero, List.getElem_cons_succ, Nat.zero_mul, Nat.add_zero, Nat.one_mul] at hb1 hb4 hr1 hr4
      have hqs : q.size < (Node.mk 43 num nm [q, b]).size := Node.size_kid (n := .mk 43 num nm [q, b]) (by simp [Node.kids])
      have e0 : stmtJ E 43 num nm [q, b] (execL E [q, b]) s = whileJ E q (execN E b) num.toNat s := by simp [stmtJ, kid, execL]
      rw [e0]
      refine kAutoB ?_
      refine CJ.loop (σ := Nat × JS × Option Addr × Nat) (fun t => (t.1 : Int) ≤ num ∧ OKJ E lens t.2.1 ∧ whileJ E q (execN E b) num.toNat s = whileJ E q (execN E b) (num.toNat - t.1) t.2.1)
        (fun t => [(5, .int .i64 (t.1 : Int)), (2, .pointer (some ⟨b2, 0, none⟩)), (3, .pointer (some ⟨b3, 0, none⟩))])
        (fun t => rcel b2 160 [.pointer (some ⟨J.bm, 0, none⟩)] :: rcel b3 50 [.int .u8 43, .int .i64 num, .string nm, .slice (some ⟨b1, o1, none⟩) [q, b].length cp] :: (jobM J E t.2.1 t.2.2.1 t.2.2.2 ++ F)) (fun t => num.toNat - t.1) (0, s, A1, c1) ⟨by simp only; omega, o, rfl⟩ (by exact kEsub) (Gives.refl _) ?_
      rintro ⟨i, s1, A2, c2⟩ ⟨hi, o, he⟩
      simp only at hi o he
      have hwh : whileJ E q (execN E b) (num.toNat - i) s1 = bindJ (stepJ E s1) (ifJ E q (if (i : Int) = num then (fun s => (s, some 11)) else fun s => bindJ (execN E b s) (whileJ E q (execN E b) (num.toNat - (i + 1)))) noJ) := by
        by_cases hin : (i : Int) = num
        · rw [show num.toNat - i = 0 by omega, whileJ, if_pos hin]
        · obtain ⟨r, hr⟩ : ∃ r, num.toNat - i = r + 1 := ⟨num.toNat - i - 1, by omega⟩
          rw [hr, whileJ, if_neg hin, show num.toNat - (i + 1) = r by omega]
      rw [hwh] at he
      clear hwh
      refine kAutoB ?_
      (apply RL.callKP; exact kEv; exact inferInstance; exact kEvl; exact Takes.two; exact step_spec w0 k o A2 c2; exact rfl)
      rotate_left
      · rintro p _ ⟨x, h1, rfl, A3, c3, rfl⟩
        refine kAutoB ?_
        rw [bindJ_some h1] at he
        rw [he]
        exact XJ.panics (jobM J E (stepJ E s1).1 A3 c3) (Gives.front2.trans Gives.drop2) ⟨x, rfl, rfl, A3, c3, rfl⟩
      rintro _ _ ⟨h1, rfl, A3, c3, rfl⟩
      rw [bindJ_none h1] at he
      have o2 := (stepJ_ok o).1
      generalize (stepJ E s1).1 = s2 at o2 he ⊢
      refine RL.gives Gives.front2 ?_
      refine kAutoB ?_
      have hev := eval_own w0 k o2 A3 c3 q r1 (by omega) hr1 hq
      unfold ifJ at he
      (refine CJ.draws mixed 10 [rcel b2 160 _, rcel b3 50 _, rcel J.bm 114 (machV J E)] (by exact kGives) (dom_of (by kernel_rfl)) ?_)
      ((first | refine kAjB 0 ?_ | refine kAjS 0 ?_); (first | refine kAjB 1 ?_ | refine kAjS 1 ?_); (first | refine kAjB 2 ?_ | refine kAjS 2 ?_); (first | refine kAjB 3 ?_ | refine kAjS 3 ?_); (first | refine kAjB 4 ?_ | refine kAjS 4 ?_); (first | refine kAjB 5 ?_ | refine kAjS 5 ?_))
      (apply AJ.pur (i := 6); exact rfl; exact rfl; exact rfl; exact rfl; exact rfl; exact rfl; exact rfl; exact rfl; exact rfl; (exact OpP.indexAddrC 0 (by exact kEv) rfl (by simp) o1 (by omega)))
      (apply AJ.pur (i := 7); exact rfl; exact rfl; exact rfl; exact rfl; exact rfl; exact rfl; exact rfl; exact rfl; exact rfl; (apply OpP.loadA; exact kEv; exact HasAt.base hb1; exact hrl1))
      (refine AJ.loud1 (i := 8) (by kernel_rfl) (by kernel_rfl) rfl (by kernel_rfl) (by kernel_rfl) rfl rfl rfl rfl rfl rfl (OpS.callO hev (by exact kEv) inferInstance (by exact kEvl) (by exact rfl) Takes.two) ?_ ?_)
      · rintro x _ ⟨N', ⟨hx, rfl⟩, rfl⟩
        refine ⟨by (repeat (first | exact Gives.refl _ | exact Gives.nil _ | (apply Gives.cons; (focus ((first | ((repeat (first | exact Takes.here _ _ | apply Takes.there)); done) | (apply Takes.appR; exact kTake; done) | (apply Takes.appR; apply Takes.appR; exact kTake; done))))) | apply Gives.drop)), ?_⟩
        obtain ⟨v, hv, rfl⟩ := resE_ok hx
        rw [hv] at he
        simp only at he
        ((first | refine kAjB 9 ?_ | refine kAjS 9 ?_))
        (refine AJ.done (by kernel_rfl) (by kernel_rfl) rfl (by kernel_rfl) ?_)
        refine XJ.gives Gives.front2 ?_
        cases hz : (v == 0)
        · have hz' : ¬ v = 0 := by simpa using hz
          rw [if_neg hz'] at he
          refine kAutoB ?_
          cases hin : ((i : Int) == num)
          · have hin' : ¬ (i : Int) = num := by simpa using hin
            rw [if_neg hin'] at he
            refine kAutoB ?_
            (refine CJ.draws mixed 6 [rcel b2 160 _, rcel b3 50 _] (by exact kGives) (dom_of (by kernel_rfl)) ?_)
            ((first | refine kAjB 0 ?_ | refine kAjS 0 ?_); (first | refine kAjB 1 ?_ | refine kAjS 1 ?_); (first | refine kAjB 2 ?_ | refine kAjS 2 ?_))
            (apply AJ.pur (i := 3); exact rfl; exact rfl; exact rfl; exact rfl; exact rfl; exact rfl; exact rfl; exact rfl; exact rfl; (exact OpP.indexAddrC 1 (by exact kEv) rfl (by simp) (o1 + 4) (by omega)))
            (apply AJ.pur (i := 4); exact rfl; exact rfl; exact rfl; exact rfl; exact rfl; exact rfl; exact rfl; exact rfl; exact rfl; (apply OpP.loadA; exact kEv; exact HasAt.base hb4; exact hrl4))
            (refine AJ.loud1 (i := 5) (by kernel_rfl) (by kernel_rfl) rfl (by kernel_rfl) (by kernel_rfl) rfl rfl rfl rfl rfl rfl (OpS.callO (hblk b (by simp) hb s2 A3 c3 r4 o2 hr4) (by exact kEv) inferInstance (by exact kEvl) (by exact rfl) Takes.two) ?_ ?_)
            · rintro _ _ ⟨N', ⟨g1, rfl, A4, c4, rfl⟩, rfl⟩
              refine ⟨by (repeat (first | exact Gives.refl _ | exact Gives.nil _ | (apply Gives.cons; (focus ((first | ((repeat (first | exact Takes.here _ _ | apply Takes.there)); done) | (apply Takes.appR; exact kTake; done) | (apply Takes.appR; apply Takes.appR; exact kTake; done))))) | apply Gives.drop)), ?_⟩
              (refine AJ.done (by kernel_rfl) (by kernel_rfl) rfl (by kernel_rfl) ?_)
              refine kAutoB ?_
              rw [bindJ_none g1] at he
              rw [i64_succ i (by omega)]
              exact XJ.round (i + 1, (execN E b s2).1, A4, c4) ⟨by simp only; omega, execN_ok b k.inp o2, he⟩ (by simp only; omega) (by exact kEsub) Gives.front2
            · rintro p _ ⟨N', ⟨x, g1, rfl, A4, c4, rfl⟩, rfl⟩
              refine kAutoB ?_
              rw [bindJ_some g1] at he
              rw [he]
              exact XJ.panics (jobM J E (execN E b s2).1 A4 c4) (Gives.front2.trans Gives.drop2) ⟨x, rfl, rfl, A4, c4, rfl⟩
          · have hin' : (i : Int) = num := by simpa using hin
            rw [if_pos hin'] at he
            refine kAutoB ?_
            (apply RL.callE; exact kEv; exact inferInstance; exact kEvl; exact (fail_spec w0 11); exact rfl)
            · intro v hv
              cases hv
            · intro p hp
              simp at hp
              subst hp
              refine kAutoB ?_
              rw [he]
              exact XJ.panics (jobM J E s2 A3 c3) Gives.drop2 ⟨11, rfl, rfl, A3, c3, rfl⟩
        · have hz' : v = 0 := by simpa using hz
          rw [if_pos hz'] at he
          rw [he]
          refine kAutoB ?_
          exact XJ.end0 rfl (jobM J E s2 A3 c3) Gives.drop2 ⟨rfl, rfl, A3, c3, rfl⟩
      · rintro p _ ⟨N', ⟨hp', rfl⟩, rfl⟩
        obtain ⟨x, hx, rfl⟩ := resE_err hp'
        rw [hx] at he
        rw [he]
        refine kAutoB ?_
        exact XJ.panics (jobM J E s2 A3 c3) (Gives.front2.trans Gives.drop2) ⟨x, rfl, rfl, A3, c3, rfl⟩
    | inp p hp =>
      obtain ⟨b1, o1, r1, e1, hb1, hrl1, hr1⟩ := hN.at_ 0 (by simp)
      subst e1
      simp only [List.getElem_cons_zero, Nat.zero_mul, Nat.add_zero] at hb1 hr1
      have hps : p.size < (Node.mk 44 num nm [p]).size := Node.size_kid (n := .mk 44 num nm [p]) (by simp [Node.kids])
      have hst := store_spec w0 k o A1 c1 [] p r1 hr1 (by omega) (place_cases hp) false (recvJ E) 122 [.pointer (some ⟨J.bm, 0, none⟩)] [] inferInstance rfl (receive_spec w0 k o A1 c1 [])
      have e0 : stmtJ E 44 num nm [p] (execL E [p]) s = storeJ E p false (recvJ E) s := by simp [stmtJ, kid]
      rw [e0]
      refine kAutoB ?_
      (refine CJ.draws mixed 8 [rcel b2 160 _, rcel b3 50 _] (by exact kGives) (dom_of (by kernel_rfl)) ?_)
      ((first | refine kAjB 0 ?_ | refine kAjS 0 ?_); (first | refine kAjB 1 ?_ | refine kAjS 1 ?_); (first | refine kAjB 2 ?_ | refine kAjS 2 ?_))
      (apply AJ.pur (i := 3); exact rfl; exact rfl; exact rfl; exact rfl; exact rfl; exact rfl; exact rfl; exact rfl; exact rfl; (exact OpP.indexAddrC 0 (by exact kEv) rfl (by simp) o1 (by omega)))
      (apply AJ.pur (i := 4); exact rfl; exact rfl; exact rfl; exact rfl; exact rfl; exact rfl; exact rfl; exact rfl; exact rfl; (apply OpP.loadA; exact kEv; exact HasAt.base hb1; exact hrl1))
      ((first | refine kAjB 5 ?_ | refine kAjS 5 ?_); (first | refine kAjB 6 ?_ | refine kAjS 6 ?_))
      (refine AJ.loud1 (i := 7) (by kernel_rfl) (by kernel_rfl) rfl (by kernel_rfl) (by kernel_rfl) rfl rfl rfl rfl rfl rfl (OpS.callO hst (by exact kEv) inferInstance (by exact kEvl) (by exact rfl) Takes.two0) ?_ ?_)
      · rintro _ _ ⟨N', ⟨g1, rfl, A2, c2, rfl⟩, rfl⟩
        rw [List.append_nil]
        refine ⟨by (repeat (first | exact Gives.refl _ | exact Gives.nil _ | (apply Gives.cons; (focus ((first | ((repeat (first | exact Takes.here _ _ | apply Takes.there)); done) | (apply Takes.appR; exact kTake; done) | (apply Takes.appR; apply Takes.appR; exact kTake; done))))) | apply Gives.drop)), ?_⟩
        (refine AJ.done (by kernel_rfl) (by kernel_rfl) rfl (by kernel_rfl) ?_)
        refine kAutoB ?_
        exact XJ.end0 rfl (jobM J E (storeJ E p false (recvJ E) s).1 A2 c2) (Gives.front2.trans Gives.drop2) ⟨g1, rfl, A2, c2, rfl⟩
      · rintro q _ ⟨N', ⟨x, g1, rfl, A2, c2, rfl⟩, rfl⟩
        rw [List.append_nil]
        refine kAutoB ?_
        exact XJ.panics (jobM J E (storeJ E p false (recvJ E) s).1 A2 c2) (Gives.front2.trans Gives.drop2) ⟨x, g1, rfl, A2, c2, rfl⟩
    | out e he =>
      obtain ⟨b1, o1, r1, e1, hb1, hrl1, hr1⟩ := hN.at_ 0 (by simp)
      subst e1
      simp only [List.getElem_cons_zero, Nat.zero_mul, Nat.add_zero] at hb1 hr1
      have hqs : e.size < (Node.mk 45 num nm [e]).size := Node.size_kid (n := .mk 45 num nm [e]) (by simp [Node.kids])
      have hev := eval_own w0 k o A1 c1 e r1 (by omega) hr1 he
      have hot := o.out
      have hsl := o.steps_le k
      have e0 : stmtJ E 45 num nm [e] (execL E [e]) s = outJ E e num s := by simp [stmtJ, kid]
      rw [e0]
      unfold outJ
      refine kAutoB ?_
      (refine CJ.draws mixed 9 [rcel b2 160 _, rcel b3 50 _, rcel J.bm 114 (machV J E)] (by exact kGives) (dom_of (by kernel_rfl)) ?_)
      ((first | refine kAjB 0 ?_ | refine kAjS 0 ?_); (first | refine kAjB 1 ?_ | refine kAjS 1 ?_); (first | refine kAjB 2 ?_ | refine kAjS 2 ?_); (first | refine kAjB 3 ?_ | refine kAjS 3 ?_); (first | refine kAjB 4 ?_ | refine kAjS 4 ?_); (first | refine kAjB 5 ?_ | refine kAjS 5 ?_))
      (apply AJ.pur (i := 6); exact rfl; exact rfl; exact rfl; exact rfl; exact rfl; exact rfl; exact rfl; exact rfl; exact rfl; (exact OpP.indexAddrC 0 (by exact kEv) rfl (by simp) o1 (by omega)))
      (apply AJ.pur (i := 7); exact rfl; exact rfl; exact rfl; exact rfl; exact rfl; exact rfl; exact rfl; exact rfl; exact rfl; (apply OpP.loadA; exact kEv; exact HasAt.base hb1; exact hrl1))
      (refine AJ.loud1 (i := 8) (by kernel_rfl) (by kernel_rfl) rfl (by kernel_rfl) (by kernel_rfl) rfl rfl rfl rfl rfl rfl (OpS.callO hev (by exact kEv) inferInstance (by exact kEvl) (by exact rfl) Takes.two) ?_ ?_)
      · rintro x _ ⟨N', ⟨hx, rfl⟩, rfl⟩
        refine ⟨by (repeat (first | exact Gives.refl _ | exact Gives.nil _ | (apply Gives.cons; (focus ((first | ((repeat (first | exact Takes.here _ _ | apply Takes.there)); done) | (apply Takes.appR; exact kTake; done) | (apply Takes.appR; apply Takes.appR; exact kTake; done))))) | apply Gives.drop)), ?_⟩
        obtain ⟨i, hi, rfl⟩ := resE_ok hx
        rw [hi]
        (refine AJ.tail (by kernel_rfl) (by kernel_rfl) rfl (by kernel_rfl) (by kernel_rfl) (by kernel_rfl) ?_)
        simp only
        refine kAutoB ?_
        refine CJ.gives (M' := cel J.br 37 (resV J s A1 c1 0) :: row 106 2 (.slice A1 s.out.length c1) s.out.length (outCells s.out) :: rcel b2 160 [.pointer (some ⟨J.bm, 0, none⟩)] :: rcel b3 50 [.int .u8 45, .int .i64 num, .string nm, .slice (some ⟨b1, o1, none⟩) [e].length cp] :: rcel J.bm 114 (machV J E) :: rmp Value.string J.ra (arrV J E) :: mp Value.string J.rv (fun nm => (s.vars nm).map intV) :: (innerM J.us s.cells ++ F)) (Gives.front2.trans (by exact kGives)) ?_
        (refine CJ.draws mixed 17 [rcel b2 160 _, rcel b3 50 _, rcel J.bm 114 (machV J E), cel J.br 37 (resV J s A1 c1 0)] (by exact kGives) (dom_of (by kernel_rfl)) ?_)
        ((first | refine kAjB 0 ?_ | refine kAjS 0 ?_); (first | refine kAjB 1 ?_ | refine kAjS 1 ?_); (first | refine kAjB 2 ?_ | refine kAjS 2 ?_); (first | refine kAjB 3 ?_ | refine kAjS 3 ?_); (first | refine kAjB 4 ?_ | refine kAjS 4 ?_); (first | refine kAjB 5 ?_ | refine kAjS 5 ?_); (first | refine kAjB 6 ?_ | refine kAjS 6 ?_); (first | refine kAjB 7 ?_ | refine kAjS 7 ?_); (first | refine kAjB 8 ?_ | refine kAjS 8 ?_); (first | refine kAjB 9 ?_ | refine kAjS 9 ?_); (first | refine kAjB 10 ?_ | refine kAjS 10 ?_); (first | refine kAjB 11 ?_ | refine kAjS 11 ?_); (first | refine kAjB 12 ?_ | refine kAjS 12 ?_); (first | refine kAjB 13 ?_ | refine kAjS 13 ?_); (first | refine kAjB 14 ?_ | refine kAjS 14 ?_))
        (refine AJ.loud1 (i := 15) (by kernel_rfl) (by kernel_rfl) rfl (by kernel_rfl) (by kernel_rfl) rfl rfl rfl rfl rfl rfl (OpS.buildSlice (E := 106) [.int .i64 num, .int .i32 i] rfl (by exact kEvl) (fun w => by kernel_rfl)) ?_ ?_)
        · rintro _ _ ⟨b, rfl, rfl⟩
          refine ⟨by exact kGives, ?_⟩
          (refine AJ.loud1 (i := 16) (by kernel_rfl) (by kernel_rfl) rfl (by kernel_rfl) (by kernel_rfl) rfl rfl rfl rfl rfl rfl (OpS.append (m := 1) (news := [.int .i64 num, .int .i32 i]) (by exact kEv) (by exact kEv) (Takes.there (Takes.there (Takes.here _ _))) (fun h m => ⟨rfl, by simp [Value.oneCell'], .inr ⟨_, _, _, rfl, HasAt.pt (Takes.here _ _) atAll⟩⟩) (by simp only [maxLen]; omega) (by omega)) ?_ ?_)
          · rintro _ _ ⟨⟨A2, c2, rfl⟩, rfl⟩
            refine ⟨by exact kGives, ?_⟩
            (refine AJ.tail (by kernel_rfl) (by kernel_rfl) rfl (by kernel_rfl) (by kernel_rfl) (by kernel_rfl) ?_)
            refine kAutoB ?_
            (apply RL.store; exact kEv; exact kEv; exact kTake; exact rfl; exact rfl; exact rfl)
            refine kAutoB ?_
            refine XJ.end0 rfl (jobM J E { s with out := s.out ++ [(num, i)] } A2 c2) ?_ ⟨rfl, rfl, A2, c2, rfl⟩
            have hl : (s.out ++ [(num, i)]).length = s.out.length + 1 := by simp
            have hc : outCells (s.out ++ [(num, i)]) = outCells s.out ++ [.int .i64 num, .int .i32 i] := by simp [outCells, intV]
            unfold jobM resV
            simp only [hl, hc]
            exact kGives
          · rintro _ _ h; exact h.elim
        · rintro _ _ h; exact h.elim
      · rintro p _ ⟨N', ⟨hp', rfl⟩, rfl⟩
        obtain ⟨x, hx, rfl⟩ := resE_err hp'
        rw [hx]
        refine kAutoB ?_
        exact XJ.panics (jobM J E s A1 c1) (Gives.front2.trans Gives.drop2) ⟨x, rfl, rfl, A1, c1, rfl⟩
    | lock b hb =>
      obtain ⟨b1, o1, r1, e1, hb1, hrl1, hr1⟩ := hN.at_ 0 (by simp)
      subst e1
      simp only [List.getElem_cons_zero, Nat.zero_mul, Nat.add_zero] at hb1 hr1
      have e0 : stmtJ E 46 num nm [b] (execL E [b]) s = execN E b s := by simp [stmtJ, execL]
      rw [e0]
      refine kAutoB ?_
      (refine CJ.draws mixed 6 [rcel b2 160 _, rcel b3 50 _] (by exact kGives) (dom_of (by kernel_rfl)) ?_)
      ((first | refine kAjB 0 ?_ | refine kAjS 0 ?_); (first | refine kAjB 1 ?_ | refine kAjS 1 ?_); (first | refine kAjB 2 ?_ | refine kAjS 2 ?_))
      (apply AJ.pur (i := 3); exact rfl; exact rfl; exact rfl; exact rfl; exact rfl; exact rfl; exact rfl; exact rfl; exact rfl; (exact OpP.indexAddrC 0 (by exact kEv) rfl (by simp) o1 (by omega)))
      (apply AJ.pur (i := 4); exact rfl; exact rfl; exact rfl; exact rfl; exact rfl; exact rfl; exact rfl; exact rfl; exact rfl; (apply OpP.loadA; exact kEv; exact HasAt.base hb1; exact hrl1))
      (refine AJ.loud1 (i := 5) (by kernel_rfl) (by kernel_rfl) rfl (by kernel_rfl) (by kernel_rfl) rfl rfl rfl rfl rfl rfl (OpS.callO (hblk b (by simp) hb s A1 c1 r1 o hr1) (by exact kEv) inferInstance (by exact kEvl) (by exact rfl) Takes.two) ?_ ?_)
      · rintro _ _ ⟨N', ⟨g1, rfl, A2, c2, rfl⟩, rfl⟩
        refine ⟨by (repeat (first | exact Gives.refl _ | exact Gives.nil _ | (apply Gives.cons; (focus ((first | ((repeat (first | exact Takes.here _ _ | apply Takes.there)); done) | (apply Takes.appR; exact kTake; done) | (apply Takes.appR; apply Takes.appR; exact kTake; done))))) | apply Gives.drop)), ?_⟩
        (refine AJ.done (by kernel_rfl) (by kernel_rfl) rfl (by kernel_rfl) ?_)
        refine kAutoB ?_
        exact XJ.end0 rfl (jobM J E (execN E b s).1 A2 c2) (Gives.front2.trans Gives.drop2) ⟨g1, rfl, A2, c2, rfl⟩
      · rintro p _ ⟨N', ⟨x, g1, rfl, A2, c2, rfl⟩, rfl⟩
        refine kAutoB ?_
        exact XJ.panics (jobM J E (execN E b s).1 A2 c2) (Gives.front2.trans Gives.drop2) ⟨x, g1, rfl, A2, c2, rfl⟩
end Go.Proofs.YtgmapenlgammfaaGreatDoor

/- The package interp: Job. -/
namespace Go.Proofs.YtgmapenlgammfaaGreatDoor
open Go

/-- Names as indices from i on, a later one before an earlier one. -/
def ixUp : List ByteArray → Nat → (ByteArray → Option Nat) → ByteArray → Option Nat
  | [], _, f => f
  | n :: r, i, f => ixUp r (i + 1) (fun k => if k = n then some i else f k)
theorem ixUp_snoc (l : List ByteArray) (n : ByteArray) : ∀ i f, ixUp (l ++ [n]) i f = fun k => if k = n then some (i + l.length) else ixUp l i f k := by
  induction l with
  | nil => intro i f; rfl
  | cons x r ih =>
    intro i f
    simp only [List.cons_append, ixUp]
    rw [ih]
    funext k
    simp only [List.length_cons]
    rw [show i + 1 + r.length = i + (r.length + 1) by omega]
theorem ixUp_lt (l : List ByteArray) : ∀ i f (b : Nat), (∀ k j, f k = some j → j < b) → i + l.length ≤ b → ∀ k j, ixUp l i f k = some j → j < b := by
  induction l with
  | nil => intro i f b hf _ k j h; exact hf k j h
  | cons x r ih =>
    intro i f b hf hb k j h
    simp only [List.length_cons] at hb
    refine ih (i + 1) _ b ?_ (by omega) k j h
    intro k j hk
    split at hk
    · injection hk with hk; omega
    · exact hf k j hk
def arrNames (l : List Arr) : List ByteArray := l.map Arr.name
def varsOf (l : List ByteArray) : ByteArray → Option Int := fun nm => if l.any (fun x => decide (x = nm)) then some 0 else none
def jobIx (T : Task) (p : Prg) : ByteArray → Option Nat := ixUp (arrNames p.shared) T.arrays.length (ixUp (arrNames T.arrays) 0 fun _ => none)
def jobE (T : Task) (p : Prg) (inp : List Int) (fuel : Int) : JE := ⟨jobIx T p, inp, fuel⟩
def job0 (T : Task) (mt ms : List (List Int)) : JS := ⟨varsOf T.vars, mt ++ ms, [], 0, 0⟩
/-- What a job leaves, from the state in which it ends. -/
def jobFin (m : Mem) (t n : Nat) (r : JR) : JobRes := ⟨⟨m.arrays.set t (r.1.cells.take n), r.1.cells.drop n⟩, r.1.out, r.1.read, r.1.steps, r.2.getD 0⟩
/-- A job of a task. -/
def jobRun (p : Prg) (t : Nat) (m : Mem) (inp : List Int) (fuel : Int) : JobRes :=
  jobFin m t (m.arrays.getD t []).length (execN (jobE (p.tasks.getD t task0) p inp fuel) (p.tasks.getD t task0).body (job0 (p.tasks.getD t task0) (m.arrays.getD t []) m.shared))
def errRes (e : Int) : JobRes := ⟨⟨[], []⟩, [], 0, 0, e⟩
def jobAll (p : Prg) (t : Int) (m : Mem) (inp : List Int) (fuel : Int) : JobRes :=
  if okB p = false then errRes 3 else if t < 0 ∨ t ≥ p.tasks.length then errRes 2 else if fitsB p m = false then errRes 14 else jobRun p t.toNat m inp fuel
theorem errRes_R (w : World) (e : Int) : ResR w [.slice none 0 0, .slice none 0 0, .slice none 0 0, .int .i64 0, .int .i64 0, .int .i64 e] (errRes e) := by
  refine ⟨_, _, _, rfl, ⟨none, 0, [], rfl, Nat.le_refl _, rfl, ?_, ?_⟩, ⟨none, 0, [], rfl, Nat.le_refl _, rfl, ?_, ?_⟩, ⟨none, 0, rfl, Nat.le_refl _, ?_⟩⟩
  · intro i r h; simp at h
  · intro i m u h; simp [errRes] at h
  · intro i r h; simp at h
  · intro i m u h; simp [errRes] at h
  · intro i r h; simp [errRes] at h
structure Mem32 (m : Mem) : Prop where
  arrays : ∀ q ∈ m.arrays, ∀ l ∈ q, ∀ x ∈ l, I32 x
  shared : ∀ l ∈ m.shared, ∀ x ∈ l, I32 x
/-- What a memory that fits looks like. -/
structure FitM (p : Prg) (m : Mem) : Prop where
  sh : m.shared.length = p.shared.length
  ar : m.arrays.length = p.tasks.length
  sl : p.shared.length ≤ 4
  tl : p.tasks.length ≤ 8
  se : ∀ l ∈ m.shared, l.length ≤ 32
  ae : ∀ (i : Nat) (T : Task) (q : List (List Int)), p.tasks[i]? = some T → m.arrays[i]? = some q → q.length = T.arrays.length ∧ T.arrays.length ≤ 4 ∧ T.vars.length ≤ 12 ∧ isB T.body 8 = true ∧ T.body.size ≤ 400 ∧ ∀ l ∈ q, l.length ≤ 32
theorem arrB_len {a : Arr} (h : arrB a = true) : 1 ≤ a.len ∧ a.len ≤ 32 := by
  unfold arrB at h
  simp only [Bool.and_eq_true, Bool.not_eq_true', decide_eq_false_iff_not] at h
  omega
theorem sizedB_each {l : List Arr} {m : List (List Int)} (h : sizedB l m = true) (ha : ∀ a ∈ l, arrB a = true) : m.length = l.length ∧ ∀ x ∈ m, x.length ≤ 32 := by
  unfold sizedB at h
  rw [Bool.and_eq_true, decide_eq_true_eq, allI_iff] at h
  refine ⟨h.1.symm, ?_⟩
  intro x hx
  obtain ⟨i, hi, rfl⟩ := List.mem_iff_getElem.1 hx
  have h2 := h.2 i (by omega)
  rw [decide_eq_true_eq, List.getD_eq_getElem?_getD, List.getElem?_eq_getElem hi, List.getD_eq_getElem?_getD, List.getElem?_eq_getElem (by omega)] at h2
  simp only [Option.getD_some] at h2
  have := arrB_len (ha _ (List.getElem_mem (show i < l.length by omega)))
  omega
theorem fits_facts {p : Prg} {m : Mem} (hf : Fit p) (h : fitsB p m = true) : FitM p m := by
  unfold fitsB at h
  simp only [Bool.and_eq_true] at h
  obtain ⟨⟨hv, hs⟩, ha⟩ := h
  rw [validB, Bool.and_eq_true, Bool.and_eq_true, arrsB, Bool.and_eq_true] at hv
  obtain ⟨⟨⟨hv1, hv2⟩, hv3⟩, hv4⟩ := hv
  have hs' := sizedB_each hs (fun a h => List.all_eq_true.1 hv2 a h)
  unfold tasksB at ha
  rw [Bool.and_eq_true, decide_eq_true_eq, allI_iff] at ha
  refine ⟨hs'.1, ha.1.symm, by have := of_decide_eq_true hv1; omega, by have := of_decide_eq_true hv3; omega, hs'.2, ?_⟩
  intro i T q e1 e2
  obtain ⟨hi, rfl⟩ := List.getElem?_eq_some_iff.1 e1
  obtain ⟨hi2, rfl⟩ := List.getElem?_eq_some_iff.1 e2
  have h2 := ha.2 i hi
  rw [List.getD_eq_getElem?_getD, List.getElem?_eq_getElem hi, List.getD_eq_getElem?_getD, List.getElem?_eq_getElem hi2] at h2
  simp only [Option.getD_some] at h2
  have htb := List.all_eq_true.1 hv4 _ (List.getElem_mem hi)
  have hz := task_sizes htb (hf.each _ (List.getElem_mem hi)).2.2
  unfold taskB at htb
  simp only [Bool.and_eq_true] at htb
  obtain ⟨⟨⟨-, hta⟩, -⟩, ⟨⟨⟨hbb, -⟩, -⟩, -⟩⟩ := htb
  unfold arrsB at hta
  rw [Bool.and_eq_true] at hta
  have h3 := sizedB_each h2 (fun a h => List.all_eq_true.1 hta.2 a h)
  exact ⟨h3.1, hz.2.1, hz.1, hbb, hz.2.2, h3.2⟩
theorem varsOf_snoc (l : List ByteArray) (n : ByteArray) : varsOf (l ++ [n]) = updI (varsOf l) n 0 := by
  funext k
  unfold varsOf updI
  by_cases h : k = n
  · subst h; simp
  · have : ¬ n = k := fun e => h e.symm
    simp only [List.any_append, List.any_cons, List.any_nil, this, decide_false, Bool.or_false, h, if_false]
theorem vars_upd (f : ByteArray → Option Int) (nm : ByteArray) (v : Int) : upd (fun n => (f n).map intV) nm (.int .i32 v) = fun n => ((updI f nm v) n).map intV := by
  funext n
  unfold upd updI
  by_cases h : n = nm
  · simp [h, intV]
  · simp [h]
theorem arrs_upd (f : ByteArray → Option Nat) (us : List Value) (nm : ByteArray) (i : Nat) (v : Value) (h : us[i]? = some v) : upd (fun n => (f n).map fun j => us.getD j undef) nm v = fun n => ((fun k => if k = nm then some i else f k) n).map fun j => us.getD j undef := by
  funext n
  unfold upd
  by_cases hn : n = nm
  · simp [hn, List.getD_eq_getElem?_getD, h]
  · simp [hn]
theorem block_kids {n : Node} (h : isB n 8 = true) : ∀ x ∈ n.kids, isB x 4 = true := by
  cases n
  exact (block_cases h).2
theorem Job_spec (w0 : World) (hT : Tab w0) (p : Prg) (pcs : List Value) (hf : Fit p) (hR : PrgR w0 p pcs) (t : Int) (m : Mem) (mcs : List Value) (hM : MemR w0 mcs m) (h32 : Mem32 m) (inV : Value) (inp : List Int) (hin : IntsR w0 inV inp) (hi32 : ∀ x ∈ inp, I32 x) (hil : inp.length ≤ 1000000000) (fuel : Int) (hfu : fuel ≤ 1000000) :
    Spec Tryz.prog w0 16 #[.agg pcs.toArray, .int .i64 t, .agg mcs.toArray, inV, .int .i64 fuel] []
      (Ret (fun v N => ∃ cs, v = .agg cs.toArray ∧ ∀ b w h F, star (N ++ F) h → Go.Proofs.YtgmapenlgammfaaGreatDoor.Sat b w h → ResR w cs (jobAll p t m inp fuel)) noP) := by
  have hok := ok_spec w0 hT p pcs hf hR
  have hfit := fits_spec w0 hT p pcs hf hR m mcs hM
  obtain ⟨A1, c1, A2, c2, rfl, h1, h2, h3, h4⟩ := hR.ex
  obtain ⟨u, v, rfl, hu, hv⟩ := hM
  obtain ⟨A3, c3, vs3, rfl, hc3, hv3, hr3, hin3⟩ := hu
  have hinV := hin
  obtain ⟨Ai, ci, rfl, hci, hri⟩ := hin
  refine Spec.enterD (args := [_, _, _, _, _]) Tryz.func16 rfl rfl rfl (fun F => ?_)
  refine kAutoB ?_
  (apply RL.boxR; exact kEv; exact rfl; intro b5)
  (apply RL.boxR; exact kEv; exact rfl; intro b7)
  refine kAutoB ?_
  (apply RL.alloc; exact rfl; exact rfl; intro b10)
  refine kAutoB ?_
  (apply RL.callIs; exact kEv; exact inferInstance; exact kEvl; exact hok; exact rfl)
  cases hk : okB p
  · refine kAutoB ?_
    (apply RL.build (r := .agg #[.slice none 0 0, .slice none 0 0, .slice none 0 0, .int .i64 0, .int .i64 0, .int .i64 3]); exact rfl; exact kEvl; (intro w; kernel_rfl); exact rfl)
    (apply RL.storeA; exact kEv; exact kEv; exact kTake; exact rfl; exact rfl; exact rfl)
    refine kAutoB ?_
    refine XJ.early (XJ.retC rfl rfl (HasAt.pt (Takes.here _ _) atAll) rfl [] (by exact kGives) ⟨_, rfl, fun b w h F _ _ => ?_⟩)
    rw [jobAll, if_pos hk]
    exact errRes_R w 3
  have hr2 : ∀ {X : Prop}, (t < 0 ∨ t ≥ p.tasks.length) → jobAll p t m inp fuel = errRes 2 := fun {_} h => by
    rw [jobAll, if_neg (by rw [hk]; decide), if_pos h]
  refine kAutoB ?_
  cases hlt0 : decide (t < 0)
  case true =>
    refine kAutoB ?_
    (apply RL.build (r := .agg #[.slice none 0 0, .slice none 0 0, .slice none 0 0, .int .i64 0, .int .i64 0, .int .i64 2]); exact rfl; exact kEvl; (intro w; kernel_rfl); exact rfl)
    (apply RL.storeA; exact kEv; exact kEv; exact kTake; exact rfl; exact rfl; exact rfl)
    refine kAutoB ?_
    refine XJ.early (XJ.retC rfl rfl (HasAt.pt (Takes.here _ _) atAll) rfl [] (by exact kGives) ⟨_, rfl, fun b w h F _ _ => ?_⟩)
    rw [hr2 (X := True) (.inl (of_decide_eq_true hlt0))]
    exact errRes_R w 2
  refine kAutoB ?_
  cases hge : decide (t ≥ (p.tasks.length : Int))
  case true =>
    refine kAutoB ?_
    (apply RL.build (r := .agg #[.slice none 0 0, .slice none 0 0, .slice none 0 0, .int .i64 0, .int .i64 0, .int .i64 2]); exact rfl; exact kEvl; (intro w; kernel_rfl); exact rfl)
    (apply RL.storeA; exact kEv; exact kEv; exact kTake; exact rfl; exact rfl; exact rfl)
    refine kAutoB ?_
    refine XJ.early (XJ.retC rfl rfl (HasAt.pt (Takes.here _ _) atAll) rfl [] (by exact kGives) ⟨_, rfl, fun b w h F _ _ => ?_⟩)
    rw [hr2 (X := True) (.inr (of_decide_eq_true hge))]
    exact errRes_R w 2
  have hrange : ¬ (t < 0 ∨ t ≥ p.tasks.length) := by
    have := of_decide_eq_false hlt0
    have := of_decide_eq_false hge
    omega
  refine kAutoB ?_
  (apply RL.callIs; exact kEv; exact inferInstance; exact kEvl; exact hfit; exact rfl)
  cases hfb : fitsB p m
  · refine kAutoB ?_
    (apply RL.build (r := .agg #[.slice none 0 0, .slice none 0 0, .slice none 0 0, .int .i64 0, .int .i64 0, .int .i64 14]); exact rfl; exact kEvl; (intro w; kernel_rfl); exact rfl)
    (apply RL.storeA; exact kEv; exact kEv; exact kTake; exact rfl; exact rfl; exact rfl)
    refine kAutoB ?_
    refine XJ.early (XJ.retC rfl rfl (HasAt.pt (Takes.here _ _) atAll) rfl [] (by exact kGives) ⟨_, rfl, fun b w h F _ _ => ?_⟩)
    rw [jobAll, if_neg (by rw [hk]; decide), if_neg hrange, if_pos hfb]
    exact errRes_R w 14
  refine kAutoB ?_
  have hF := fits_facts hf hfb
  have hall : jobAll p t m inp fuel = jobRun p t.toNat m inp fuel := by rw [jobAll, if_neg (by rw [hk]; decide), if_neg hrange, if_neg (by rw [hfb]; decide)]
  rw [hall]
  clear hall hr2 hok hfit
  obtain ⟨tn, rfl⟩ : ∃ n : Nat, t = (n : Int) := ⟨t.toNat, by omega⟩
  have htn : tn < p.tasks.length := by omega
  rw [Int.toNat_natCast]
  have hcs := copied_spec w0 v m.shared hv (by have := hF.sh; have := hF.sl; omega) (fun l hl => by have := hF.se l hl; omega)
  refine kAutoB ?_
  (apply RL.callK; exact kEv; exact inferInstance; exact kEvl; exact (Takes.nil _); exact hcs; exact rfl)
  rintro _ _ ⟨vSA, vSc, usS, rfl, husS, rfl⟩
  refine RL.gives (M' := cel b10 37 [.slice none 0 0, .slice none 0 0, .slice none 0 0, .int .i64 0, .int .i64 0, .int .i64 0] :: rcel b7 29 [.slice A3 m.arrays.length c3, v] :: rcel b5 25 [.slice A1 p.shared.length c1, .slice A2 p.tasks.length c2] :: (matM (.slice vSA m.shared.length vSc) usS m.shared ++ F)) (by
    refine Gives.cons (Takes.appR _ (Takes.here _ _)) (Gives.cons (Takes.appR _ (Takes.here _ _)) (Gives.cons (Takes.appR _ (Takes.here _ _)) (Gives.refl _)))) ?_
  refine kAutoB ?_
  (apply RL.store; exact kEv; exact kEv; exact kTake; exact rfl; exact rfl; exact rfl)
  refine kAutoB ?_
  have hFa := hF.ar
  have hFt := hF.tl
  have hFs := hF.sh
  have hFl := hF.sl
  generalize hG : matM (.slice vSA m.shared.length vSc) usS m.shared ++ F = G
  refine CJ.gives (M' := cel b10 37 [.slice none 0 0, .slice vSA m.shared.length vSc, .slice none 0 0, .int .i64 0, .int .i64 0, .int .i64 0] :: row 27 1 (.slice none 0 0) 0 [] :: rcel b7 29 [.slice A3 m.arrays.length c3, v] :: rcel b5 25 [.slice A1 p.shared.length c1, .slice A2 p.tasks.length c2] :: (cubM [] [] [] ++ G)) (by
    refine (row_nil 27 1).trans ?_
    exact Gives.cons (Takes.there (Takes.here _ _)) (Gives.cons (Takes.here _ _) (Gives.refl _))) ?_
  refine CJ.loop (σ := Nat × Option Addr × Nat × List Value × List (List Value)) (fun s => s.1 ≤ m.arrays.length ∧ Lens s.2.2.2.1 s.2.2.2.2 (m.arrays.take s.1))
    (fun s => [(51, .int .i64 (s.1 : Int)), (50, .int .i64 m.arrays.length), (49, .slice A3 m.arrays.length c3), (10, .pointer (some ⟨b10, 0, none⟩)), (7, .pointer (some ⟨b7, 0, none⟩)), (5, .pointer (some ⟨b5, 0, none⟩)), (1, .int .i64 (tn : Int)), (3, .slice Ai inp.length ci), (4, .int .i64 fuel)])
    (fun s => cel b10 37 [.slice s.2.1 s.1 s.2.2.1, .slice vSA m.shared.length vSc, .slice none 0 0, .int .i64 0, .int .i64 0, .int .i64 0] :: row 27 1 (.slice s.2.1 s.1 s.2.2.1) s.1 s.2.2.2.1 :: rcel b7 29 [.slice A3 m.arrays.length c3, v] :: rcel b5 25 [.slice A1 p.shared.length c1, .slice A2 p.tasks.length c2] :: (cubM s.2.2.2.1 s.2.2.2.2 (m.arrays.take s.1) ++ G))
    (fun s => m.arrays.length - s.1) (0, none, 0, [], []) ⟨Nat.zero_le _, Lens.nil⟩ (by exact kEsub) (by exact kGives) ?_
  rintro ⟨i, Ao, co, vs, uss⟩ ⟨hi, hL⟩
  simp only at hi hL
  refine kAutoB ?_
  cases hlt : decide ((i : Int) < (m.arrays.length : Int))
  case true =>
    have hlt' : i < m.arrays.length := by have := of_decide_eq_true hlt; omega
    obtain ⟨b, o, hA3, hrl', hb⟩ := hr3.at_ i (by simpa using (by omega : i < vs3.length))
    subst hA3
    simp only [List.getElem_map] at hb hrl'
    have hmi := hin3 i m.arrays[i] (vs3[i]'(by omega)) (by simp [hlt']) (by simp [show i < vs3.length by omega])
    obtain ⟨q1, q2, q3, q4, q5, q6⟩ := hF.ae i (p.tasks[i]'(by omega)) m.arrays[i] (by simp [show i < p.tasks.length by omega]) (by simp [hlt'])
    have hZ2 := copied_spec w0 (vs3[i]'(by omega)) m.arrays[i] hmi (by omega) (fun l hl => by have := q6 l hl; omega)
    have hzt : m.arrays.take (i + 1) = m.arrays.take i ++ [m.arrays[i]] := List.take_succ_eq_append_getElem hlt'
    refine kAutoB ?_
    apply RL.pur; (apply OpP.indexAddr; exact kEv; exact kEv; exact hlt'); exact rfl
    apply RL.pur; (apply OpP.load; exact kEv; exact HasAt.base hb); exact rfl
    refine kAutoB ?_
    (refine CJ.draws mixed 7 [cel b10 _ _] (by exact kGives) (dom_of (by kernel_rfl)) ?_)
    ((first | refine kAjB 0 ?_ | refine kAjS 0 ?_); (first | refine kAjB 1 ?_ | refine kAjS 1 ?_); (first | refine kAjB 2 ?_ | refine kAjS 2 ?_); (first | refine kAjB 3 ?_ | refine kAjS 3 ?_))
    (refine AJ.loud1 (i := 4) (by kernel_rfl) (by kernel_rfl) rfl (by kernel_rfl) (by kernel_rfl) rfl rfl rfl rfl rfl rfl (OpS.call (by exact kEv) inferInstance (by exact kEvl) (Takes.nil _) hZ2) ?_ ?_)
    · rintro _ _ ⟨N, ⟨A8, c8, us8, rfl, hus8, rfl⟩, rfl⟩
      refine ⟨Gives.skipApp (by exact kGives), ?_⟩
      (refine AJ.loud1 (i := 5) (by kernel_rfl) (by kernel_rfl) rfl (by kernel_rfl) (by kernel_rfl) rfl rfl rfl rfl rfl rfl (OpS.buildSlice (E := 27) [.slice A8 m.arrays[i].length c8] rfl (by exact kEvl) (fun w => by kernel_rfl)) ?_ ?_)
      · rintro _ _ ⟨b9, rfl, rfl⟩
        refine ⟨Gives.drop (Gives.skipApp (by exact kGives)), ?_⟩
        (refine AJ.loud1 (i := 6) (by kernel_rfl) (by kernel_rfl) rfl (by kernel_rfl) (by kernel_rfl) rfl rfl rfl rfl rfl rfl (OpS.append (m := 1) (news := [.slice A8 m.arrays[i].length c8]) (by exact kEv) (by exact kEv) (Takes.there (Takes.appR _ (Takes.there (Takes.here _ _)))) (fun h m => ⟨rfl, by simp [Value.oneCell'], .inr ⟨_, _, _, rfl, HasAt.pt (Takes.here _ _) atAll⟩⟩) (by simp only [maxLen]; omega) (by omega)) ?_ ?_)
        · rintro _ _ ⟨⟨A10, c10, rfl⟩, rfl⟩
          refine ⟨Gives.drop (Gives.drop (Gives.skipApp (by exact kGives))), ?_⟩
          (refine AJ.tail (by kernel_rfl) (by kernel_rfl) rfl (by kernel_rfl) (by kernel_rfl) (by kernel_rfl) ?_)
          refine RL.gives (M' := cel b10 37 [.slice Ao i co, .slice vSA m.shared.length vSc, .slice none 0 0, .int .i64 0, .int .i64 0, .int .i64 0] :: row 27 1 (.slice A10 (i + 1) c10) (i + 1) (vs ++ [.slice A8 m.arrays[i].length c8]) :: rcel b7 29 [.slice (some ⟨b, o, none⟩) m.arrays.length c3, v] :: rcel b5 25 [.slice A1 p.shared.length c1, .slice A2 p.tasks.length c2] :: (cubM (vs ++ [.slice A8 m.arrays[i].length c8]) (uss ++ [us8]) (m.arrays.take (i + 1)) ++ G)) ?_ ?_
          · rw [hzt, cubM_snoc _ _ _ _ _ _ hL.l1 hL.l2]
            unfold matM
            refine Gives.cons (Takes.there (Takes.there (Takes.appR _ (Takes.here _ _)))) (Gives.cons (Takes.here _ _) (Gives.cons (Takes.there (Takes.appR _ (Takes.here _ _))) (Gives.cons (Takes.there (Takes.appR _ (Takes.here _ _))) (Gives.drop Gives.swapApp))))
          refine kAutoB ?_
          (apply RL.store; exact kEv; exact kEv; exact Takes.here _ _; exact rfl; exact rfl; exact rfl)
          refine kAutoB ?_
          rw [i64_succ i (by omega)]
          refine XJ.round (i + 1, A10, c10, vs ++ [.slice A8 m.arrays[i].length c8], uss ++ [us8]) ⟨by simp only; omega, ?_⟩ (by simp only; omega) (by exact kEsub) (by exact kGives)
          rw [hzt]
          exact hL.snoc hus8
        · rintro _ _ h; exact h.elim
      · rintro _ _ h; exact h.elim
    · rintro _ _ ⟨_, h, _⟩; exact h.elim
  have hge : i = m.arrays.length := by have := of_decide_eq_false hlt; omega
  subst hge
  rw [List.take_length] at hL
  rw [List.take_length]
  clear hlt
  generalize hvA : Ao = vAA
  generalize hvC : co = vAc
  refine kAutoB ?_
  obtain ⟨bt, ot, rt, hA2, hbt, hrt, hrtR⟩ := h4.at_ tn htn
  subst hA2
  obtain ⟨q1, q2, q3, q4, q5, q6⟩ := hF.ae tn p.tasks[tn] (m.arrays[tn]'(by omega)) (by simp [htn]) (by simp [show tn < m.arrays.length by omega])
  have hTd : p.tasks.getD tn task0 = p.tasks[tn] := by simp [List.getD_eq_getElem?_getD, htn]
  have hmd : m.arrays.getD tn [] = m.arrays[tn]'(by omega) := by simp [List.getD_eq_getElem?_getD, show tn < m.arrays.length by omega]
  unfold jobRun
  rw [hTd, hmd]
  have hmtn : m.arrays[tn]? = some (m.arrays[tn]'(by omega)) := by simp [show tn < m.arrays.length by omega]
  have hfe := hf.each _ (List.getElem_mem htn)
  generalize hmt : m.arrays[tn]'(by omega) = mt at *
  generalize hTT : p.tasks[tn] = TT at *
  obtain ⟨A5, c5, A6, c6, bs, rfl, g1, g2, g3, g4, g5⟩ := hrtR.ex
  have hbody := g5
  obtain ⟨A7, c7, rfl, g6, _⟩ := g5.kids
  apply RL.pur; (apply OpP.indexAddr; exact kEv; exact kEv; exact htn); exact rfl
  apply RL.pur; (apply OpP.loadA; exact kEv; exact HasAt.base hbt; exact hrt); exact rfl
  (apply RL.alloc; exact rfl; exact rfl; intro b13)
  refine kAutoB ?_
  (apply RL.storeW; exact kEv; exact kEv; exact kTake; exact rfl; exact rfl; exact rfl)
  refine kAutoB ?_
  refine RL.makeMap rfl Value.string (fun rv => ?_)
  refine RL.makeMap rfl Value.string (fun ra => ?_)
  refine kAutoB ?_
  (apply RL.build (r := .agg #[.map (some rv), .map (some ra), .slice Ai inp.length ci, .int .i64 fuel, .pointer (some ⟨b10, 0, none⟩)]); exact rfl; exact kEvl; (intro w; kernel_rfl); exact rfl)
  (apply RL.alloc; exact rfl; exact rfl; intro b14)
  (apply RL.storeA; exact kEv; exact kEv; exact kTake; exact rfl; exact rfl; exact rfl)
  refine kAutoB ?_
  have hvt : vs[tn]? = some (vs.getD tn undef) := by have := hL.l1; simp [List.getD_eq_getElem?_getD, show tn < vs.length by omega]
  have hut : uss[tn]? = some (uss.getD tn []) := by have := hL.l2; simp [List.getD_eq_getElem?_getD, show tn < uss.length by omega]
  have hlt1 := hL.each tn _ _ hut hmtn
  generalize vs.getD tn undef = vt at hvt
  generalize uss.getD tn [] = ust at hut hlt1
  subst hG
  generalize hR : cubM (vs.eraseIdx tn) (uss.eraseIdx tn) (m.arrays.eraseIdx tn) = R
  refine CJ.gives (M' := cel b14 114 [.map (some rv), .map (some ra), .slice Ai inp.length ci, .int .i64 fuel, .pointer (some ⟨b10, 0, none⟩)] :: mp Value.string ra (fun _ => none) :: mp Value.string rv (fun _ => none) :: cel b13 52 [.string TT.name, .int .i64 TT.period, .slice A5 TT.vars.length c5, .slice A6 TT.arrays.length c6, .int .u8 TT.body.kind, .int .i64 TT.body.num, .string TT.body.name, .slice A7 TT.body.kids.length c7] :: cel b10 37 [.slice vAA m.arrays.length vAc, .slice vSA m.shared.length vSc, .slice none 0 0, .int .i64 0, .int .i64 0, .int .i64 0] :: row 27 1 (.slice vAA m.arrays.length vAc) m.arrays.length vs :: row 30 1 vt mt.length ust :: row 30 1 (.slice vSA m.shared.length vSc) m.shared.length usS :: rcel b7 29 [.slice A3 m.arrays.length c3, v] :: rcel b5 25 [.slice A1 p.shared.length c1, .slice (some ⟨bt, ot, none⟩) p.tasks.length c2] :: (innerM (ust ++ usS) (mt ++ m.shared) ++ (R ++ F))) ?_ ?_
  · rw [innerM_append _ _ _ _ hlt1, ← hR]
    refine Gives.cons (Takes.here _ _) (Gives.cons (Takes.here _ _) (Gives.cons (Takes.here _ _) (Gives.cons (Takes.here _ _) (Gives.cons (Takes.here _ _) (Gives.cons (Takes.here _ _) (Gives.cons (Takes.there (Takes.there (Takes.head (cubM_takes hvt hut hmtn _)))) (Gives.cons (Takes.there (Takes.there (Takes.appR _ (Takes.appR _ (Takes.here _ _))))) (Gives.cons (Takes.here _ _) (Gives.cons (Takes.here _ _) Gives.reorg)))))))))
  generalize hZ : innerM (ust ++ usS) (mt ++ m.shared) ++ (R ++ F) = Z
  have hv0 : (fun _ => none : ByteArray → Option Value) = fun nm => (varsOf (TT.vars.take 0) nm).map intV := by funext nm; simp [varsOf]
  have hi0 : (fun _ => none : ByteArray → Option Value) = fun nm => (ixUp (arrNames (TT.arrays.take 0)) 0 (fun _ => none) nm).map fun j => (ust ++ usS).getD j undef := by funext nm; rfl
  refine CJ.loop (σ := Nat) (fun i => i ≤ TT.vars.length) (fun i => [(79, .int .i64 (i : Int)), (78, .int .i64 TT.vars.length), (77, .slice A5 TT.vars.length c5), (14, .pointer (some ⟨b14, 0, none⟩)), (13, .pointer (some ⟨b13, 0, none⟩)), (10, .pointer (some ⟨b10, 0, none⟩)), (7, .pointer (some ⟨b7, 0, none⟩)), (5, .pointer (some ⟨b5, 0, none⟩)), (1, .int .i64 (tn : Int))])
    (fun i => cel b14 114 [.map (some rv), .map (some ra), .slice Ai inp.length ci, .int .i64 fuel, .pointer (some ⟨b10, 0, none⟩)] :: mp Value.string ra (fun _ => none) :: mp Value.string rv (fun nm => (varsOf (TT.vars.take i) nm).map intV) :: cel b13 52 [.string TT.name, .int .i64 TT.period, .slice A5 TT.vars.length c5, .slice A6 TT.arrays.length c6, .int .u8 TT.body.kind, .int .i64 TT.body.num, .string TT.body.name, .slice A7 TT.body.kids.length c7] :: cel b10 37 [.slice vAA m.arrays.length vAc, .slice vSA m.shared.length vSc, .slice none 0 0, .int .i64 0, .int .i64 0, .int .i64 0] :: row 27 1 (.slice vAA m.arrays.length vAc) m.arrays.length vs :: row 30 1 vt mt.length ust :: row 30 1 (.slice vSA m.shared.length vSc) m.shared.length usS :: rcel b7 29 [.slice A3 m.arrays.length c3, v] :: rcel b5 25 [.slice A1 p.shared.length c1, .slice (some ⟨bt, ot, none⟩) p.tasks.length c2] :: Z)
    (fun i => TT.vars.length - i) 0 (Nat.zero_le _) (by exact kEsub) (by rw [← hv0]; exact kGives) ?_
  intro i hi
  refine kAutoB ?_
  cases hlt : decide ((i : Int) < (TT.vars.length : Int))
  case true =>
    have hlt' : i < TT.vars.length := by have := of_decide_eq_true hlt; omega
    obtain ⟨b, o, e, hrl', hb⟩ := g3.at_ i (by simpa using hlt')
    subst e
    simp only [List.getElem_map, strRow] at hb hrl'
    refine kAutoB ?_
    apply RL.pur; (apply OpP.indexAddr; exact kEv; exact kEv; exact hlt'); exact rfl
    apply RL.pur; (apply OpP.load; exact kEv; exact HasAt.base hb); exact rfl
    refine kAutoB ?_
    (apply RL.mapUpdate (enc := Value.string) (r := rv); exact kEv; exact kEv; exact kEv; exact kTake)
    refine kAutoB ?_
    rw [i64_succ i (by omega), vars_upd, ← varsOf_snoc, ← List.take_succ_eq_append_getElem hlt']
    exact XJ.round (i + 1) (by omega) (by omega) (by exact kEsub) (by exact kGives)
  have hge : i = TT.vars.length := by have := of_decide_eq_false hlt; omega
  subst hge
  rw [List.take_length]
  clear hlt hi
  refine kAutoB ?_
  rw [hi0]
  refine CJ.loop (σ := Nat) (fun i => i ≤ TT.arrays.length) (fun i => [(91, .int .i64 (i : Int)), (90, .int .i64 TT.arrays.length), (89, .slice A6 TT.arrays.length c6), (14, .pointer (some ⟨b14, 0, none⟩)), (13, .pointer (some ⟨b13, 0, none⟩)), (10, .pointer (some ⟨b10, 0, none⟩)), (7, .pointer (some ⟨b7, 0, none⟩)), (5, .pointer (some ⟨b5, 0, none⟩)), (1, .int .i64 (tn : Int))])
    (fun i => cel b14 114 [.map (some rv), .map (some ra), .slice Ai inp.length ci, .int .i64 fuel, .pointer (some ⟨b10, 0, none⟩)] :: mp Value.string ra (fun nm => (ixUp (arrNames (TT.arrays.take i)) 0 (fun _ => none) nm).map fun j => (ust ++ usS).getD j undef) :: mp Value.string rv (fun nm => (varsOf TT.vars nm).map intV) :: cel b13 52 [.string TT.name, .int .i64 TT.period, .slice A5 TT.vars.length c5, .slice A6 TT.arrays.length c6, .int .u8 TT.body.kind, .int .i64 TT.body.num, .string TT.body.name, .slice A7 TT.body.kids.length c7] :: cel b10 37 [.slice vAA m.arrays.length vAc, .slice vSA m.shared.length vSc, .slice none 0 0, .int .i64 0, .int .i64 0, .int .i64 0] :: row 27 1 (.slice vAA m.arrays.length vAc) m.arrays.length vs :: row 30 1 vt mt.length ust :: row 30 1 (.slice vSA m.shared.length vSc) m.shared.length usS :: rcel b7 29 [.slice A3 m.arrays.length c3, v] :: rcel b5 25 [.slice A1 p.shared.length c1, .slice (some ⟨bt, ot, none⟩) p.tasks.length c2] :: Z)
    (fun i => TT.arrays.length - i) 0 (Nat.zero_le _) (by exact kEsub) (by exact kGives) ?_
  intro i hi
  refine kAutoB ?_
  cases hlt : decide ((i : Int) < (TT.arrays.length : Int))
  case true =>
    have hlt' : i < TT.arrays.length := by have := of_decide_eq_true hlt; omega
    obtain ⟨b, o, e, hrl', hb⟩ := g4.at_ i (by simpa using hlt')
    subst e
    simp only [List.getElem_map, arrRow] at hb hrl'
    refine kAutoB ?_
    refine RL.fact (p := (∃ b c, Value.slice vAA m.arrays.length vAc = .slice (some ⟨b, 0, none⟩) m.arrays.length c) ∧ (∃ b c, vt = .slice (some ⟨b, 0, none⟩) mt.length c)) (fun h mm => ⟨row_ptr (by exact kTake) mm (by omega), row_ptr (by exact kTake) mm (by omega)⟩) ?_
    rintro ⟨⟨bA, cA, eA⟩, ⟨bT, cT, rfl⟩⟩
    simp only [Value.slice.injEq] at eA
    obtain ⟨rfl, -, rfl⟩ := eA
    apply RL.pur; (apply OpP.indexAddr; exact kEv; exact kEv; exact hlt'); exact rfl
    apply RL.pur; (apply OpP.loadA; exact kEv; exact HasAt.base hb; exact rfl); exact rfl
    (apply RL.alloc; exact rfl; exact rfl; intro b18)
    refine kAutoB ?_
    (apply RL.storeW; exact kEv; exact kEv; exact kTake; exact rfl; exact rfl; exact rfl)
    refine kAutoB ?_
    (refine CJ.draws mixed 14 [cel b14 _ _, cel b18 _ _, cel b10 _ _, row 27 1 _ _ _, row 30 1 (.slice (some ⟨bT, 0, none⟩) mt.length cT) mt.length ust] (by exact kGives) (dom_of (by kernel_rfl)) ?_)
    ((first | refine kAjB 0 ?_ | refine kAjS 0 ?_); (first | refine kAjB 1 ?_ | refine kAjS 1 ?_); (first | refine kAjB 2 ?_ | refine kAjS 2 ?_); (first | refine kAjB 3 ?_ | refine kAjS 3 ?_); (first | refine kAjB 4 ?_ | refine kAjS 4 ?_); (first | refine kAjB 5 ?_ | refine kAjS 5 ?_); (first | refine kAjB 6 ?_ | refine kAjS 6 ?_); (first | refine kAjB 7 ?_ | refine kAjS 7 ?_); (first | refine kAjB 8 ?_ | refine kAjS 8 ?_))
    (apply AJ.pur (i := 9); exact rfl; exact rfl; exact rfl; exact rfl; exact rfl; exact rfl; exact rfl; exact rfl; exact rfl; (apply OpP.indexAddr; exact kEv; exact kEv; exact (by omega)))
    (apply AJ.pur (i := 10); exact rfl; exact rfl; exact rfl; exact rfl; exact rfl; exact rfl; exact rfl; exact rfl; exact rfl; (apply OpP.load; exact kEv; exact row_at (by exact kTake) hvt))
    ((first | refine kAjB 11 ?_ | refine kAjS 11 ?_))
    (apply AJ.pur (i := 12); exact rfl; exact rfl; exact rfl; exact rfl; exact rfl; exact rfl; exact rfl; exact rfl; exact rfl; (apply OpP.indexAddr; exact kEv; exact kEv; exact (by omega)))
    (apply AJ.pur (i := 13); exact rfl; exact rfl; exact rfl; exact rfl; exact rfl; exact rfl; exact rfl; exact rfl; exact rfl; (apply OpP.load; exact kEv; exact row_at (x := ust[i]'(by omega)) (by exact kTake) (by simp [show i < ust.length by omega])))
    (refine AJ.tail (by kernel_rfl) (by kernel_rfl) rfl (by kernel_rfl) (by kernel_rfl) (by kernel_rfl) ?_)
    (apply RL.mapUpdate (enc := Value.string) (r := ra); exact kEv; exact kEv; exact kEv; exact kTake)
    refine kAutoB ?_
    have hnm : arrNames (TT.arrays.take (i + 1)) = arrNames (TT.arrays.take i) ++ [TT.arrays[i].name] := by
      unfold arrNames
      rw [List.take_succ_eq_append_getElem hlt', List.map_append]
      rfl
    have hnl : 0 + (arrNames (TT.arrays.take i)).length = i := by simp [arrNames]; omega
    rw [i64_succ i (by omega), arrs_upd _ _ _ i _ (by rw [List.getElem?_append_left (by omega)]; simp [show i < ust.length by omega])]
    refine XJ.round (i + 1) (by omega) (by omega) (by exact kEsub) ?_
    rw [hnm, ixUp_snoc, hnl]
    exact kGives
  have hge : i = TT.arrays.length := by have := of_decide_eq_false hlt; omega
  subst hge
  rw [List.take_length]
  clear hlt hi hi0 hv0
  refine kAutoB ?_
  refine CJ.loop (σ := Nat) (fun i => i ≤ p.shared.length) (fun i => [(114, .int .i64 (i : Int)), (113, .int .i64 p.shared.length), (112, .slice A1 p.shared.length c1), (14, .pointer (some ⟨b14, 0, none⟩)), (13, .pointer (some ⟨b13, 0, none⟩)), (10, .pointer (some ⟨b10, 0, none⟩)), (7, .pointer (some ⟨b7, 0, none⟩)), (5, .pointer (some ⟨b5, 0, none⟩)), (1, .int .i64 (tn : Int))])
    (fun i => cel b14 114 [.map (some rv), .map (some ra), .slice Ai inp.length ci, .int .i64 fuel, .pointer (some ⟨b10, 0, none⟩)] :: mp Value.string ra (fun nm => (ixUp (arrNames (p.shared.take i)) TT.arrays.length (ixUp (arrNames TT.arrays) 0 fun _ => none) nm).map fun j => (ust ++ usS).getD j undef) :: mp Value.string rv (fun nm => (varsOf TT.vars nm).map intV) :: cel b13 52 [.string TT.name, .int .i64 TT.period, .slice A5 TT.vars.length c5, .slice A6 TT.arrays.length c6, .int .u8 TT.body.kind, .int .i64 TT.body.num, .string TT.body.name, .slice A7 TT.body.kids.length c7] :: cel b10 37 [.slice vAA m.arrays.length vAc, .slice vSA m.shared.length vSc, .slice none 0 0, .int .i64 0, .int .i64 0, .int .i64 0] :: row 27 1 (.slice vAA m.arrays.length vAc) m.arrays.length vs :: row 30 1 vt mt.length ust :: row 30 1 (.slice vSA m.shared.length vSc) m.shared.length usS :: rcel b7 29 [.slice A3 m.arrays.length c3, v] :: rcel b5 25 [.slice A1 p.shared.length c1, .slice (some ⟨bt, ot, none⟩) p.tasks.length c2] :: Z)
    (fun i => p.shared.length - i) 0 (Nat.zero_le _) (by exact kEsub) (by exact kGives) ?_
  intro i hi
  refine kAutoB ?_
  cases hlt : decide ((i : Int) < (p.shared.length : Int))
  case true =>
    have hlt' : i < p.shared.length := by have := of_decide_eq_true hlt; omega
    obtain ⟨b, o, e, hrl', hb⟩ := h3.at_ i (by simpa using hlt')
    subst e
    simp only [List.getElem_map, arrRow] at hb hrl'
    refine kAutoB ?_
    refine RL.fact (p := ∃ b c, Value.slice vSA m.shared.length vSc = .slice (some ⟨b, 0, none⟩) m.shared.length c) (fun h mm => row_ptr (by exact kTake) mm (by omega)) ?_
    rintro ⟨bS, cS, eS⟩
    simp only [Value.slice.injEq] at eS
    obtain ⟨rfl, -, rfl⟩ := eS
    apply RL.pur; (apply OpP.indexAddr; exact kEv; exact kEv; exact hlt'); exact rfl
    apply RL.pur; (apply OpP.loadA; exact kEv; exact HasAt.base hb; exact rfl); exact rfl
    (apply RL.alloc; exact rfl; exact rfl; intro b20)
    refine kAutoB ?_
    (apply RL.storeW; exact kEv; exact kEv; exact kTake; exact rfl; exact rfl; exact rfl)
    refine kAutoB ?_
    (refine CJ.draws mixed 11 [cel b14 _ _, cel b20 _ _, cel b10 _ _, row 30 1 (.slice (some ⟨bS, 0, none⟩) m.shared.length vSc) m.shared.length usS] (by exact kGives) (dom_of (by kernel_rfl)) ?_)
    ((first | refine kAjB 0 ?_ | refine kAjS 0 ?_); (first | refine kAjB 1 ?_ | refine kAjS 1 ?_); (first | refine kAjB 2 ?_ | refine kAjS 2 ?_); (first | refine kAjB 3 ?_ | refine kAjS 3 ?_); (first | refine kAjB 4 ?_ | refine kAjS 4 ?_); (first | refine kAjB 5 ?_ | refine kAjS 5 ?_); (first | refine kAjB 6 ?_ | refine kAjS 6 ?_); (first | refine kAjB 7 ?_ | refine kAjS 7 ?_); (first | refine kAjB 8 ?_ | refine kAjS 8 ?_))
    (apply AJ.pur (i := 9); exact rfl; exact rfl; exact rfl; exact rfl; exact rfl; exact rfl; exact rfl; exact rfl; exact rfl; (apply OpP.indexAddr; exact kEv; exact kEv; exact (by omega)))
    (apply AJ.pur (i := 10); exact rfl; exact rfl; exact rfl; exact rfl; exact rfl; exact rfl; exact rfl; exact rfl; exact rfl; (apply OpP.load; exact kEv; exact row_at (x := usS[i]'(by omega)) (by exact kTake) (by simp [show i < usS.length by omega])))
    (refine AJ.tail (by kernel_rfl) (by kernel_rfl) rfl (by kernel_rfl) (by kernel_rfl) (by kernel_rfl) ?_)
    (apply RL.mapUpdate (enc := Value.string) (r := ra); exact kEv; exact kEv; exact kEv; exact kTake)
    refine kAutoB ?_
    have hnm : arrNames (p.shared.take (i + 1)) = arrNames (p.shared.take i) ++ [p.shared[i].name] := by
      unfold arrNames
      rw [List.take_succ_eq_append_getElem hlt', List.map_append]
      rfl
    have hnl : TT.arrays.length + (arrNames (p.shared.take i)).length = TT.arrays.length + i := by simp [arrNames]; omega
    rw [i64_succ i (by omega), arrs_upd _ _ _ (TT.arrays.length + i) _ (by rw [List.getElem?_append_right (by omega), show TT.arrays.length + i - ust.length = i by omega]; simp [show i < usS.length by omega])]
    refine XJ.round (i + 1) (by omega) (by omega) (by exact kEsub) ?_
    rw [hnm, ixUp_snoc, hnl]
    exact kGives
  have hge : i = p.shared.length := by have := of_decide_eq_false hlt; omega
  subst hge
  rw [List.take_length]
  clear hlt hi
  refine kAutoB ?_
  subst hZ
  have hcl : (mt ++ m.shared).length = (ust ++ usS).length := by simp only [List.length_append]; omega
  generalize hJ : (⟨b14, rv, ra, b10, ust ++ usS, .slice Ai inp.length ci, .slice vAA m.arrays.length vAc, .slice vSA m.shared.length vSc⟩ : JP) = J
  generalize hE : jobE TT p inp fuel = E
  generalize hs0 : job0 TT mt m.shared = s0
  have kF : JobF w0 J E ((mt ++ m.shared).map List.length) := by
    subst hJ hE
    refine ⟨by simp only [List.length_map]; omega, ?_, ?_, hfu, hinV, hi32, hil⟩
    · intro nm j hj
      simp only [List.length_map, List.length_append]
      refine ixUp_lt _ _ _ _ ?_ ?_ nm j hj
      · intro nm j hj
        exact Nat.lt_of_lt_of_le (ixUp_lt (arrNames TT.arrays) 0 _ (arrNames TT.arrays).length (fun _ _ h => by cases h) (by omega) nm j hj) (by simp [arrNames]; omega)
      · simp [arrNames]; omega
    · intro x hx
      simp only [List.mem_map, List.mem_append] at hx
      obtain ⟨l, hl, rfl⟩ := hx
      rcases hl with hl | hl
      · have := q6 l hl; omega
      · have := hF.se l hl; omega
  have o0 : OKJ E ((mt ++ m.shared).map List.length) s0 := by
    subst hs0
    refine ⟨?_, ?_, rfl, Nat.le_refl _, Nat.le_refl _, .inl rfl⟩
    · intro nm x hx
      simp only [job0, varsOf] at hx
      split at hx
      · injection hx with hx; subst hx; exact .zero
      · cases hx
    · intro l hl x hx
      simp only [job0, List.mem_append] at hl
      rcases hl with hl | hl
      · exact h32.arrays mt (List.mem_of_getElem? hmtn) l hl x hx
      · exact h32.shared l hl x hx
  refine RL.frz (A := cel b14 114 _) (by exact kTake) Frz.pt ?_
  refine RL.frz (A := mp Value.string ra _) (by exact kTake) Frz.mp ?_
  refine RL.gives (row_nil 106 2) ?_
  generalize hZ1 : row 27 1 (.slice vAA m.arrays.length vAc) m.arrays.length vs :: row 30 1 vt mt.length ust :: row 30 1 (.slice vSA m.shared.length vSc) m.shared.length usS :: (R ++ F) = Z1
  refine RL.gives (M' := cel b13 52 [.string TT.name, .int .i64 TT.period, .slice A5 TT.vars.length c5, .slice A6 TT.arrays.length c6, .int .u8 TT.body.kind, .int .i64 TT.body.num, .string TT.body.name, .slice A7 TT.body.kids.length c7] :: (jobM J E s0 none 0 ++ Z1)) ?_ ?_
  · subst hJ hE hs0 hZ1
    refine Gives.cons (by exact kTake) (Gives.cons (by exact kTake) (Gives.cons (by exact kTake) (Gives.cons (by exact kTake) (Gives.cons (by exact kTake) (Gives.cons (by exact kTake) ?_)))))
    refine Gives.trans (B := row 27 1 (.slice vAA m.arrays.length vAc) m.arrays.length vs :: row 30 1 vt mt.length ust :: row 30 1 (.slice vSA m.shared.length vSc) m.shared.length usS :: (innerM (ust ++ usS) (mt ++ m.shared) ++ (R ++ F))) (by exact kGives) Gives.under3
  refine RL.defer (cap := [.pointer (some ⟨b10, 0, none⟩)]) (by exact kEv) ?_
  refine RLD.nil ?_
  refine XJD.next ?_
  refine CJD.seq ?_
  refine CJD.region ?_
  (apply RLD.pur; exact kPureB; exact rfl)
  (apply RLD.pur; exact kPureB; exact rfl)
  have hts : TT.body.size < 4611686018427387904 := by omega
  have hblk := block_spec w0 kF TT.body hts q4 (fun x hx => exec_spec w0 kF _ x (Nat.le_refl _) (by have := Node.size_kid hx; omega) (block_kids q4 x hx)) s0 none 0 _ o0 hbody
  have hokr := execN_ok TT.body (E := E) (by subst hE; exact hi32) o0
  generalize hr : execN E TT.body s0 = r at hblk hokr
  have hcells : r.1.cells.length = mt.length + m.shared.length := by have := hokr.len; simpa using this
  have hG1 : ∀ (s1 : JS) (A : Option Addr) (c : Nat), s1.cells.length = mt.length + m.shared.length → Gives (row 106 2 (.slice A s1.out.length c) s1.out.length (outCells s1.out) :: (innerM (ust ++ usS) s1.cells ++ Z1)) ((cubA (.slice vAA m.arrays.length vAc) vs uss (m.arrays.set tn (s1.cells.take mt.length)) ++ (matM (.slice vSA m.shared.length vSc) usS (s1.cells.drop mt.length) ++ [row 106 2 (.slice A s1.out.length c) s1.out.length (outCells s1.out)])) ++ F) := by
    intro s1 A c hc
    have hI : innerM (ust ++ usS) s1.cells = innerM ust (s1.cells.take mt.length) ++ innerM usS (s1.cells.drop mt.length) := by
      rw [← innerM_append _ _ _ _ (by simp only [List.length_take]; omega), List.take_append_drop]
    have hq : (m.arrays.set tn (s1.cells.take mt.length))[tn]? = some (s1.cells.take mt.length) := by simp [show tn < m.arrays.length by omega]
    have hp := cubM_take tn vs uss _ vt ust _ hvt hut hq
    rw [eraseIdx_set, hR] at hp
    have l1 : (m.arrays.set tn (s1.cells.take mt.length)).length = m.arrays.length := by simp
    have l2 : (s1.cells.take mt.length).length = mt.length := by simp only [List.length_take]; omega
    have l3 : (s1.cells.drop mt.length).length = m.shared.length := by simp only [List.length_drop]; omega
    unfold matM at hp ⊢
    unfold cubA
    rw [l2] at hp
    rw [l1, l3, hI, ← hZ1]
    unfold Gives
    intro h mm
    refine star.perm ?_ mm
    clear mm
    letI : DecidableEq HProp := fun a b => Classical.propDecidable (a = b)
    refine List.perm_iff_count.2 (fun x => ?_)
    have hc := hp.count_eq x
    simp only [List.count_append, List.count_cons, List.count_nil] at hc ⊢
    omega
  have hR1 : ∀ (s1 : JS) (A : Option Addr) (c : Nat) (e : Int), s1.cells.length = mt.length + m.shared.length → ∀ b w h F, star ((cubA (.slice vAA m.arrays.length vAc) vs uss (m.arrays.set tn (s1.cells.take mt.length)) ++ (matM (.slice vSA m.shared.length vSc) usS (s1.cells.drop mt.length) ++ [row 106 2 (.slice A s1.out.length c) s1.out.length (outCells s1.out)])) ++ F) h → Go.Proofs.YtgmapenlgammfaaGreatDoor.Sat b w h → ResR w [(.slice vAA m.arrays.length vAc), (.slice vSA m.shared.length vSc), .slice A s1.out.length c, .int .i64 s1.read, .int .i64 s1.steps, .int .i64 e] ⟨⟨m.arrays.set tn (s1.cells.take mt.length), s1.cells.drop mt.length⟩, s1.out, s1.read, s1.steps, e⟩ := by
    intro s1 A c e hc b w h F mm sa
    have l2 : (s1.cells.take mt.length).length = mt.length := by simp only [List.length_take]; omega
    have l3 : (s1.cells.drop mt.length).length = m.shared.length := by simp only [List.length_drop]; omega
    refine ⟨_, _, _, rfl, cubA_R (hL.set hmtn l2) (Takes.sub (Takes.app _ _)) mm sa, matM_R (by rw [husS, l3]) (Takes.sub (Takes.appR _ (Takes.app _ _))) mm sa, row_outs (Takes.sub (Takes.appR _ (Takes.appR _ (Takes.here _ _)))) mm sa⟩
  have hM1 : ∀ (s1 : JS) (A : Option Addr) (c : Nat), Gives (jobM J E s1 A c ++ (cel b13 52 [.string TT.name, .int .i64 TT.period, .slice A5 TT.vars.length c5, .slice A6 TT.arrays.length c6, .int .u8 TT.body.kind, .int .i64 TT.body.num, .string TT.body.name, .slice A7 TT.body.kids.length c7] :: Z1)) (cel b10 37 [(.slice vAA m.arrays.length vAc), (.slice vSA m.shared.length vSc), .slice A s1.out.length c, .int .i64 s1.read, .int .i64 s1.steps, .int .i64 0] :: row 106 2 (.slice A s1.out.length c) s1.out.length (outCells s1.out) :: (innerM (ust ++ usS) s1.cells ++ Z1)) := by
    intro s1 A c
    subst hJ
    exact Gives.cons (Takes.there (Takes.there (Takes.there (Takes.here _ _)))) (Gives.cons (Takes.there (Takes.there (Takes.there (Takes.here _ _)))) (Gives.drop (Gives.drop (Gives.drop (Takes.drop2 _ _ _)))))
  have hJb : J.bm = b14 := by subst hJ; rfl
  rw [hJb] at hblk
  refine RLD.s (OpS.callO hblk (by exact kEv) inferInstance (by exact kEvl) (by exact rfl) (Takes.there1 (Takes.app _ _))) rfl ?_ ?_
  · rintro _ _ ⟨N', ⟨hn, rfl, A, c, rfl⟩, rfl⟩
    refine RLD.gives (hM1 r.1 A c) ?_
    refine RLD.nil ?_
    refine XJD.next ?_
    refine CJD.seq ?_
    refine CJD.region ?_
    (apply RLD.pur; exact kPureB; exact rfl)
    (apply RLD.storeW; exact kEv; exact kEv; exact Takes.here _ _; exact rfl; exact rfl; exact rfl)
    refine RLD.nil ?_
    refine XJD.next ?_
    refine CJD.ret ?_
    refine XJD.leave inferInstance (job1_none w0 b10 _) ?_
    refine XJ.retC rfl rfl (HasAt.pt (Takes.here _ _) atAll) rfl _ (Gives.drop (hG1 r.1 A c hcells)) ⟨_, rfl, ?_⟩
    intro b w h F mm sa
    have := hR1 r.1 A c (r.2.getD 0) hcells b w h F mm sa
    rw [hn] at this
    unfold jobFin
    rw [hn]
    exact this
  · rintro pp _ ⟨N', ⟨e, hn, rfl, A, c, rfl⟩, rfl⟩
    refine XJD.then_panic ?_
    refine XJD.gives (hM1 r.1 A c) ?_
    refine XJD.caught inferInstance (job1_some w0 b10 _ e _ _ _ _ _ _ _) ?_
    refine XJ.retC rfl rfl (HasAt.pt (Takes.here _ _) atAll) rfl _ (Gives.drop (hG1 r.1 A c hcells)) ⟨_, rfl, ?_⟩
    intro b w h F mm sa
    have := hR1 r.1 A c (r.2.getD 0) hcells b w h F mm sa
    rw [hn] at this
    unfold jobFin
    rw [hn]
    exact this
end Go.Proofs.YtgmapenlgammfaaGreatDoor

/- The law's comparisons: lists, outputs, memories, results. -/
namespace Go.Proofs.YtgmapenlgammfaaGreatDoor
open Go
theorem i64_up (i : Nat) (h : (i : Int) < 9223372036854775807) : IntKind.i64.wrap ((i : Int) + 1) = ((i + 1 : Nat) : Int) := by
  simp only [IntKind.wrap, IntKind.signed, IntKind.bits]
  simp
  omega
theorem take_step {α : Type} {a b : List α} {i : Nat} (h1 : i < a.length) (h2 : i < b.length) (h : a.take i = b.take i) (e : a[i] = b[i]) : a.take (i + 1) = b.take (i + 1) := by
  rw [List.take_succ_eq_append_getElem h1, List.take_succ_eq_append_getElem h2, h, e]
theorem MatR.at_ {w : World} {v : Value} {m : List (List Int)} (h : MatR w v m) : ∃ A c, v = .slice A m.length c ∧ m.length ≤ c ∧ ∀ i (hi : i < m.length), ∃ b o A1 c1, A = some ⟨b, o, none⟩ ∧ Base w b (o + i * 1) [.slice A1 (m[i]'hi).length c1] ∧ (m[i]'hi).length ≤ c1 ∧ RowsB w 1 A1 (((m[i]'hi).map intV).map fun u => [u]) := by
  obtain ⟨A, c, us, rfl, hc, hl, hr, hin⟩ := h
  refine ⟨A, c, rfl, hc, ?_⟩
  intro i hi
  obtain ⟨b, o, e, _, hb⟩ := hr.at_ i (by simpa using (by omega : i < us.length))
  simp only [List.getElem_map] at hb
  obtain ⟨A1, c1, e1, e2, e3⟩ := hin i m[i] (us[i]'(by omega)) (by simp [hi]) (by simp [show i < us.length by omega])
  rw [e1] at hb
  exact ⟨b, o, A1, c1, e, hb, e2, e3⟩
theorem CubR.at_ {w : World} {v : Value} {q : List (List (List Int))} (h : CubR w v q) : ∃ A c, v = .slice A q.length c ∧ q.length ≤ c ∧ ∀ i (hi : i < q.length), ∃ b o u, A = some ⟨b, o, none⟩ ∧ Base w b (o + i * 1) [u] ∧ MatR w u (q[i]'hi) := by
  obtain ⟨A, c, us, rfl, hc, hl, hr, hin⟩ := h
  refine ⟨A, c, rfl, hc, ?_⟩
  intro i hi
  obtain ⟨b, o, e, _, hb⟩ := hr.at_ i (by simpa using (by omega : i < us.length))
  simp only [List.getElem_map] at hb
  exact ⟨b, o, us[i]'(by omega), e, hb, hin i q[i] (us[i]'(by omega)) (by simp [hi]) (by simp [show i < us.length by omega])⟩
/-- A list of lists that a machine can hold. -/
def MatL (m : List (List Int)) : Prop := m.length ≤ maxLen ∧ ∀ l ∈ m, l.length ≤ maxLen
theorem lists_spec (w0 : World) (u v : Value) (a b : List (List Int)) (ha : MatR w0 u a) (hb : MatR w0 v b) (hl : MatL a) :
    Spec Tryz.prog w0 18 #[u, v] [] (Is (.bool (decide (a = b)))) := by
  obtain ⟨A, c, rfl, hc, ha⟩ := ha.at_
  obtain ⟨B, d, rfl, hd, hb⟩ := hb.at_
  obtain ⟨hl1, hl2⟩ := hl
  simp only [maxLen] at hl1 hl2
  refine Spec.enter (args := [_, _]) Tryz.func18 rfl rfl rfl (fun F => ?_)
  refine kAutoB ?_
  cases hne : ((a.length : Int) != (b.length : Int))
  case true =>
    have hn : a.length ≠ b.length := by simp at hne; omega
    refine kAutoB ?_
    refine XJ.ret1 rfl rfl [] (by exact kGives) ⟨?_, rfl⟩
    rw [decide_eq_false (fun e => hn (by rw [e]))]
  have hlen : a.length = b.length := by simp at hne; omega
  refine kAutoB ?_
  refine CJ.loop (σ := Nat) (fun i => i ≤ a.length ∧ a.take i = b.take i) (fun i => [(14, .int .i64 (i : Int)), (13, .int .i64 a.length), (0, .slice A a.length c), (1, .slice B b.length d)]) (fun _ => F) (fun i => a.length - i) 0 ⟨Nat.zero_le _, rfl⟩ (by exact kEsub) (by exact kGives) ?_
  rintro i ⟨hi, he⟩
  refine kAutoB ?_
  cases hlt : decide ((i : Int) < (a.length : Int))
  · have hge : i = a.length := by have := of_decide_eq_false hlt; omega
    refine kAutoB ?_
    refine XJ.ret1 rfl rfl [] (by exact kGives) ⟨?_, rfl⟩
    rw [hge, List.take_length, hlen, List.take_length] at he
    rw [decide_eq_true he]
  have hlt' : i < a.length := by have := of_decide_eq_true hlt; omega
  have hlt2 : i < b.length := by omega
  obtain ⟨b1, o1, A1, c1, rfl, hb1, hc1, hr1⟩ := ha i hlt'
  obtain ⟨b2, o2, A2, c2, rfl, hb2, hc2, hr2⟩ := hb i hlt2
  have hai := hl2 _ (List.getElem_mem hlt')
  refine kAutoB ?_
  (refine CJ.draws mixed 11 _ (by exact kGives) (dom_of (by kernel_rfl)) ?_)
  ((first | refine kAjB 0 ?_ | refine kAjS 0 ?_); (first | refine kAjB 1 ?_ | refine kAjS 1 ?_))
  (apply AJ.pur (i := 2); exact rfl; exact rfl; exact rfl; exact rfl; exact rfl; exact rfl; exact rfl; exact rfl; exact rfl; (apply OpP.indexAddr; exact kEv; exact kEv; exact hlt'))
  ((first | refine kAjB 3 ?_ | refine kAjS 3 ?_); (first | refine kAjB 4 ?_ | refine kAjS 4 ?_); (first | refine kAjB 5 ?_ | refine kAjS 5 ?_); (first | refine kAjB 6 ?_ | refine kAjS 6 ?_))
  (apply AJ.pur (i := 7); exact rfl; exact rfl; exact rfl; exact rfl; exact rfl; exact rfl; exact rfl; exact rfl; exact rfl; (apply OpP.indexAddr; exact kEv; exact kEv; exact hlt2))
  ((first | refine kAjB 8 ?_ | refine kAjS 8 ?_); (first | refine kAjB 9 ?_ | refine kAjS 9 ?_); (first | refine kAjB 10 ?_ | refine kAjS 10 ?_))
  (refine AJ.done (by kernel_rfl) (by kernel_rfl) rfl (by kernel_rfl) ?_)
  refine kAutoB ?_
  cases hne2 : (((a[i]'hlt').length : Int) != ((b[i]'hlt2).length : Int))
  case true =>
    have hn : (a[i]'hlt').length ≠ (b[i]'hlt2).length := by simp at hne2; omega
    refine kAutoB ?_
    refine XJ.ret1 rfl rfl [] (by exact kGives) ⟨?_, rfl⟩
    rw [decide_eq_false (fun e => hn (by subst e; rfl))]
  have hlen2 : (a[i]'hlt').length = (b[i]'hlt2).length := by simp at hne2; omega
  refine kAutoB ?_
  apply RL.pur; (apply OpP.indexAddr; exact kEv; exact kEv; exact hlt'); exact rfl
  refine kAutoB ?_
  refine CJ.loop (σ := Nat) (fun k => k ≤ (a[i]'hlt').length ∧ (a[i]'hlt').take k = (b[i]'hlt2).take k) (fun k => [(33, .int .i64 (k : Int)), (32, .int .i64 (a[i]'hlt').length), (14, .int .i64 (i : Int)), (5, .int .i64 (i : Int)), (13, .int .i64 a.length), (0, .slice (some ⟨b1, o1, none⟩) a.length c), (1, .slice (some ⟨b2, o2, none⟩) b.length d)]) (fun _ => F) (fun k => (a[i]'hlt').length - k) 0 ⟨Nat.zero_le _, rfl⟩ (by exact kEsub) (by exact kGives) ?_
  rintro k ⟨hk, hek⟩
  refine kAutoB ?_
  cases hkt : decide ((k : Int) < ((a[i]'hlt').length : Int))
  · have hke : k = (a[i]'hlt').length := by have := of_decide_eq_false hkt; omega
    refine kAutoB ?_
    rw [i64_up i (by omega)]
    refine XJ.round (i + 1) ⟨by omega, take_step hlt' hlt2 he ?_⟩ (by omega) (by exact kEsub) (by exact kGives)
    rw [hke, List.take_length, hlen2, List.take_length] at hek
    exact hek
  have hkt' : k < (a[i]'hlt').length := by have := of_decide_eq_true hkt; omega
  have hkt2 : k < (b[i]'hlt2).length := by omega
  obtain ⟨b3, o3, e3, _, hb3⟩ := hr1.at_ k (by simpa using hkt')
  obtain ⟨b4, o4, e4, _, hb4⟩ := hr2.at_ k (by simpa using hkt2)
  subst e3 e4
  simp only [List.getElem_map, intV] at hb3 hb4
  refine kAutoB ?_
  (refine CJ.draws mixed 15 _ (by exact kGives) (dom_of (by kernel_rfl)) ?_)
  ((first | refine kAjB 0 ?_ | refine kAjS 0 ?_); (first | refine kAjB 1 ?_ | refine kAjS 1 ?_))
  (apply AJ.pur (i := 2); exact rfl; exact rfl; exact rfl; exact rfl; exact rfl; exact rfl; exact rfl; exact rfl; exact rfl; (apply OpP.indexAddr; exact kEv; exact kEv; exact hlt'))
  ((first | refine kAjB 3 ?_ | refine kAjS 3 ?_); (first | refine kAjB 4 ?_ | refine kAjS 4 ?_))
  (apply AJ.pur (i := 5); exact rfl; exact rfl; exact rfl; exact rfl; exact rfl; exact rfl; exact rfl; exact rfl; exact rfl; (apply OpP.indexAddr; exact kEv; exact kEv; exact hkt'))
  ((first | refine kAjB 6 ?_ | refine kAjS 6 ?_); (first | refine kAjB 7 ?_ | refine kAjS 7 ?_); (first | refine kAjB 8 ?_ | refine kAjS 8 ?_))
  (apply AJ.pur (i := 9); exact rfl; exact rfl; exact rfl; exact rfl; exact rfl; exact rfl; exact rfl; exact rfl; exact rfl; (apply OpP.indexAddr; exact kEv; exact kEv; exact hlt2))
  ((first | refine kAjB 10 ?_ | refine kAjS 10 ?_); (first | refine kAjB 11 ?_ | refine kAjS 11 ?_))
  (apply AJ.pur (i := 12); exact rfl; exact rfl; exact rfl; exact rfl; exact rfl; exact rfl; exact rfl; exact rfl; exact rfl; (apply OpP.indexAddr; exact kEv; exact kEv; exact hkt2))
  ((first | refine kAjB 13 ?_ | refine kAjS 13 ?_); (first | refine kAjB 14 ?_ | refine kAjS 14 ?_))
  (refine AJ.done (by kernel_rfl) (by kernel_rfl) rfl (by kernel_rfl) ?_)
  refine kAutoB ?_
  cases hx : ((a[i]'hlt')[k]'hkt' != (b[i]'hlt2)[k]'hkt2)
  case true =>
    have hn : (a[i]'hlt')[k]'hkt' ≠ (b[i]'hlt2)[k]'hkt2 := by simpa using hx
    refine kAutoB ?_
    refine XJ.ret1 rfl rfl [] (by exact kGives) ⟨?_, rfl⟩
    rw [decide_eq_false (fun e => hn (by subst e; rfl))]
  have hn : (a[i]'hlt')[k]'hkt' = (b[i]'hlt2)[k]'hkt2 := by simpa using hx
  refine kAutoB ?_
  rw [i64_up k (by omega)]
  exact XJ.round (k + 1) ⟨by omega, take_step hkt' hkt2 hek hn⟩ (by omega) (by exact kEsub) (by exact kGives)
/-! two structs of two numbers -/
def scaI (P : Program) (t : TypeId) : Bool := (match P.underlying t with
  | some (.int _) => true
  | _ => false) && decide (aggB P t = some (false, 1))
def eq2B (P : Program) (T : TypeId) : Bool := match (P.fieldsOf T).toList with
  | [f, g] => decide (f.name ≠ "_") && decide (g.name ≠ "_") && decide (f.offset = 0) && decide (g.offset = 1) && scaI P f.type && scaI P g.type
  | _ => false
theorem scaI_part {P : Program} {t : TypeId} (h : scaI P t = true) (cs : Array Value) (o : Nat) (v : Value) (w : World) (hv : cs[o]? = some v) : (part t cs o).run P w = .ok v w := by
  unfold scaI at h
  simp only [Bool.and_eq_true, decide_eq_true_eq] at h
  simp [part, (aggB_run h.2 w).1, hv]
theorem scaI_eq {P : Program} {t : TypeId} (h : scaI P t = true) (d : Nat) (k : IntKind) (a b : Int) (w : World) : (Op.equalIn (d + 1) t (.int k a) (.int k b)).run P w = .ok (a == b) w := by
  unfold scaI at h
  simp only [Bool.and_eq_true] at h
  cases hu : P.underlying t with
  | none => rw [hu] at h; simp at h
  | some dd =>
    rw [hu] at h
    cases dd <;> simp at h
    exact run_equalIn_int w d t k _ a b hu
theorem run_eq2 {P : Program} {T : TypeId} (h : eq2B P T = true) (hs : P.underlying T = some (.struct (P.fieldsOf T))) (hp : P.stoodInHeld T = false) (k1 k2 : IntKind) (a b c d : Int) (w : World) :
    (Op.equalIn 10000 T (.agg #[.int k1 a, .int k2 b]) (.agg #[.int k1 c, .int k2 d])).run P w = .ok (a == c && b == d) w := by
  rw [show (10000 : Nat) = 9999 + 1 from rfl, run_equalIn_struct w 9999 _ _ _ hs hp]
  unfold eq2B at h
  split at h
  · rename_i f g hfg
    rw [hfg]
    simp only [Bool.and_eq_true, decide_eq_true_eq] at h
    obtain ⟨⟨⟨⟨⟨h1, h2⟩, h3⟩, h4⟩, h5⟩, h6⟩ := h
    have p1 := scaI_part h5 #[.int k1 a, .int k2 b] 0 (.int k1 a) w rfl
    have p2 := scaI_part h5 #[.int k1 c, .int k2 d] 0 (.int k1 c) w rfl
    have p3 := scaI_part h6 #[.int k1 a, .int k2 b] 1 (.int k2 b) w rfl
    have p4 := scaI_part h6 #[.int k1 c, .int k2 d] 1 (.int k2 d) w rfl
    have e1 := scaI_eq h5 9998 k1 a c w
    have e2 := scaI_eq h6 9998 k2 b d w
    simp only [Op.eqFields, Sem.run_ite, h3, h4, Sem.run_bind, p1, p2, p3, p4, e1, e2, Result.andThen_ok, Sem.run_pure]
    rw [if_pos h1]
    cases a == c
    · simp
    · simp only [Bool.not_true, Bool.false_eq_true, if_false, Bool.true_and]
      rw [if_pos h2]
      cases b == d <;> simp
  · cases h
section
attribute [local semireducible] OpP Ev
theorem OpP.neq2 {P : Program} {w0 : World} {L : Env} {M : List HProp} {dd : Option Tmp} {T : TypeId} {p : String} {af : Array Edge} {gg : Option (Nat × Bool)} {t u : TypeId} {x y : Operand} {k1 k2 : IntKind} {a b c d : Int} (h : eq2B P t = true) (hs : P.underlying t = some (.struct (P.fieldsOf t))) (hp : P.stoodInHeld t = false) (hm : P.eqGuardType P.depth t = false)
    (hx : Ev L x (.agg #[.int k1 a, .int k2 b])) (hy : Ev L y (.agg #[.int k1 c, .int k2 d])) : OpP P w0 L M ⟨dd, .binOp .neq t x y u, T, p, af, gg⟩ (.bool (!(a == c && b == d))) := fun n ac w hh s _ _ => by
  simp only [Go.execOp, hx n ac s, hy n ac s, Sem.run_bind, run_eqGuard_agg w _ _ _ _ _ _ hm, Result.andThen_ok, run_neq_struct, run_eq2 h hs hp, Sem.run_pure]
theorem OpP.eql2 {P : Program} {w0 : World} {L : Env} {M : List HProp} {dd : Option Tmp} {T : TypeId} {p : String} {af : Array Edge} {gg : Option (Nat × Bool)} {t u : TypeId} {x y : Operand} {k1 k2 : IntKind} {a b c d : Int} (h : eq2B P t = true) (hs : P.underlying t = some (.struct (P.fieldsOf t))) (hp : P.stoodInHeld t = false) (hm : P.eqGuardType P.depth t = false)
    (hx : Ev L x (.agg #[.int k1 a, .int k2 b])) (hy : Ev L y (.agg #[.int k1 c, .int k2 d])) : OpP P w0 L M ⟨dd, .binOp .eql t x y u, T, p, af, gg⟩ (.bool (a == c && b == d)) := fun n ac w hh s _ _ => by
  simp only [Go.execOp, hx n ac s, hy n ac s, Sem.run_bind, run_eqGuard_agg w _ _ _ _ _ _ hm, Result.andThen_ok, run_eql_struct, run_eq2 h hs hp, Sem.run_pure]
end
theorem outputs_spec (w0 : World) (u v : Value) (a b : List (Int × Int)) (ha : OutsR w0 u a) (hb : OutsR w0 v b) (hl : a.length ≤ maxLen) :
    Spec Tryz.prog w0 24 #[u, v] [] (Is (.bool (decide (a = b)))) := by
  obtain ⟨A, c, rfl, hc, ha⟩ := ha
  obtain ⟨B, d, rfl, hd, hb⟩ := hb
  simp only [maxLen] at hl
  refine Spec.enter (args := [_, _]) Tryz.func24 rfl rfl rfl (fun F => ?_)
  refine kAutoB ?_
  cases hne : ((a.length : Int) != (b.length : Int))
  case true =>
    have hn : a.length ≠ b.length := by simp at hne; omega
    refine kAutoB ?_
    refine XJ.ret1 rfl rfl [] (by exact kGives) ⟨?_, rfl⟩
    rw [decide_eq_false (fun e => hn (by rw [e]))]
  have hlen : a.length = b.length := by simp at hne; omega
  refine kAutoB ?_
  refine CJ.loop (σ := Nat) (fun i => i ≤ a.length ∧ a.take i = b.take i) (fun i => [(13, .int .i64 (i : Int)), (12, .int .i64 a.length), (0, .slice A a.length c), (1, .slice B b.length d)]) (fun _ => F) (fun i => a.length - i) 0 ⟨Nat.zero_le _, rfl⟩ (by exact kEsub) (by exact kGives) ?_
  rintro i ⟨hi, he⟩
  refine kAutoB ?_
  cases hlt : decide ((i : Int) < (a.length : Int))
  · have hge : i = a.length := by have := of_decide_eq_false hlt; omega
    refine kAutoB ?_
    refine XJ.ret1 rfl rfl [] (by exact kGives) ⟨?_, rfl⟩
    rw [hge, List.take_length, hlen, List.take_length] at he
    rw [decide_eq_true he]
  have hlt' : i < a.length := by have := of_decide_eq_true hlt; omega
  have hlt2 : i < b.length := by omega
  obtain ⟨b1, o1, rfl, hl1, hb1⟩ := ha.at_ i (by simpa using hlt')
  obtain ⟨b2, o2, rfl, hl2, hb2⟩ := hb.at_ i (by simpa using hlt2)
  simp only [List.getElem_map, intV] at hb1 hb2
  refine kAutoB ?_
  (refine CJ.draws mixed 9 _ (by exact kGives) (dom_of (by kernel_rfl)) ?_)
  ((first | refine kAjB 0 ?_ | refine kAjS 0 ?_); (first | refine kAjB 1 ?_ | refine kAjS 1 ?_))
  (apply AJ.pur (i := 2); exact rfl; exact rfl; exact rfl; exact rfl; exact rfl; exact rfl; exact rfl; exact rfl; exact rfl; (apply OpP.indexAddr; exact kEv; exact kEv; exact hlt'))
  (apply AJ.pur (i := 3); exact rfl; exact rfl; exact rfl; exact rfl; exact rfl; exact rfl; exact rfl; exact rfl; exact rfl; (apply OpP.loadA; exact kEv; exact HasAt.base hb1; exact rfl))
  ((first | refine kAjB 4 ?_ | refine kAjS 4 ?_); (first | refine kAjB 5 ?_ | refine kAjS 5 ?_))
  (apply AJ.pur (i := 6); exact rfl; exact rfl; exact rfl; exact rfl; exact rfl; exact rfl; exact rfl; exact rfl; exact rfl; (apply OpP.indexAddr; exact kEv; exact kEv; exact hlt2))
  (apply AJ.pur (i := 7); exact rfl; exact rfl; exact rfl; exact rfl; exact rfl; exact rfl; exact rfl; exact rfl; exact rfl; (apply OpP.loadA; exact kEv; exact HasAt.base hb2; exact rfl))
  (apply AJ.pur (i := 8); exact rfl; exact rfl; exact rfl; exact rfl; exact rfl; exact rfl; exact rfl; exact rfl; exact rfl; (apply OpP.neq2; kernel_rfl; kernel_rfl; kernel_rfl; kernel_rfl; exact kEv; exact kEv))
  (refine AJ.done (by kernel_rfl) (by kernel_rfl) rfl (by kernel_rfl) ?_)
  refine kAutoB ?_
  cases hx : ((a[i]'hlt').1 == (b[i]'hlt2).1 && (a[i]'hlt').2 == (b[i]'hlt2).2)
  · refine kAutoB ?_
    refine XJ.ret1 rfl rfl [] (by exact kGives) ⟨?_, rfl⟩
    rw [decide_eq_false (fun e => by subst e; simp at hx)]
  · have hn : (a[i]'hlt') = (b[i]'hlt2) := by
      simp only [Bool.and_eq_true, beq_iff_eq] at hx
      exact Prod.ext hx.1 hx.2
    refine kAutoB ?_
    rw [i64_up i (by omega)]
    exact XJ.round (i + 1) ⟨by omega, take_step hlt' hlt2 he hn⟩ (by omega) (by exact kEsub) (by exact kGives)
end Go.Proofs.YtgmapenlgammfaaGreatDoor

/- The law's comparisons of memories and results. -/
namespace Go.Proofs.YtgmapenlgammfaaGreatDoor
open Go
def eqMem (a b : Mem) : Bool := decide (a.arrays.length = b.arrays.length) && decide (a.shared = b.shared) && decide (a.arrays = b.arrays)
theorem eqMem_iff (a b : Mem) : eqMem a b = true ↔ a = b := by
  obtain ⟨a1, a2⟩ := a
  obtain ⟨b1, b2⟩ := b
  unfold eqMem
  simp only [Bool.and_eq_true, decide_eq_true_eq, Mem.mk.injEq]
  exact ⟨fun ⟨⟨_, h2⟩, h3⟩ => ⟨h3, h2⟩, fun ⟨h1, h2⟩ => ⟨⟨by rw [h1], h2⟩, h1⟩⟩
structure MemL (m : Mem) : Prop where
  len : m.arrays.length ≤ maxLen
  each : ∀ q ∈ m.arrays, MatL q
  shared : MatL m.shared
theorem Equal_spec (w0 : World) (us vs : List Value) (a b : Mem) (ha : MemR w0 us a) (hb : MemR w0 vs b) (hl : MemL a) :
    Spec Tryz.prog w0 17 #[.agg us.toArray, .agg vs.toArray] [] (Is (.int .i64 (if eqMem a b then 1 else 0))) := by
  obtain ⟨u1, u2, rfl, ha1, ha2⟩ := ha
  obtain ⟨v1, v2, rfl, hb1, hb2⟩ := hb
  have hLS := lists_spec w0 u2 v2 a.shared b.shared ha2 hb2 hl.shared
  obtain ⟨A, c, rfl, hc, ha⟩ := ha1.at_
  obtain ⟨B, d, rfl, hd, hb⟩ := hb1.at_
  have hl1 := hl.len
  simp only [maxLen] at hl1
  refine Spec.enter (args := [_, _]) Tryz.func17 rfl rfl rfl (fun F => ?_)
  refine kAutoB ?_
  (apply RL.boxR; exact kEv; exact rfl; intro b2)
  (apply RL.boxR; exact kEv; exact rfl; intro b3)
  refine kAutoB ?_
  cases hne : ((a.arrays.length : Int) != (b.arrays.length : Int))
  case true =>
    have hn : a.arrays.length ≠ b.arrays.length := by simp at hne; omega
    refine kAutoB ?_
    refine XJ.ret1 rfl rfl [] (by exact kGives) ⟨?_, rfl⟩
    rw [eqMem, decide_eq_false hn]; rfl
  have hlen : a.arrays.length = b.arrays.length := by simp at hne; omega
  refine kAutoB ?_
  (apply RL.callIs; exact kEv; exact inferInstance; exact kEvl; exact hLS; exact rfl)
  cases hsh : decide (a.shared = b.shared)
  · refine kAutoB ?_
    refine XJ.ret1 rfl rfl [] (by exact kGives) ⟨?_, rfl⟩
    rw [eqMem, hsh, Bool.and_false, Bool.false_and]; rfl
  refine kAutoB ?_
  refine CJ.loop (σ := Nat) (fun i => i ≤ a.arrays.length ∧ a.arrays.take i = b.arrays.take i) (fun i => [(24, .int .i64 (i : Int)), (23, .int .i64 a.arrays.length), (2, .pointer (some ⟨b2, 0, none⟩)), (3, .pointer (some ⟨b3, 0, none⟩))]) (fun _ => rcel b3 29 [.slice B b.arrays.length d, v2] :: rcel b2 29 [.slice A a.arrays.length c, u2] :: F) (fun i => a.arrays.length - i) 0 ⟨Nat.zero_le _, rfl⟩ (by exact kEsub) (by exact kGives) ?_
  rintro i ⟨hi, he⟩
  refine kAutoB ?_
  cases hlt : decide ((i : Int) < (a.arrays.length : Int))
  · have hge : i = a.arrays.length := by have := of_decide_eq_false hlt; omega
    refine kAutoB ?_
    refine XJ.ret1 rfl rfl [] (by exact kGives) ⟨?_, rfl⟩
    rw [hge, List.take_length, hlen, List.take_length] at he
    rw [eqMem, hsh, decide_eq_true he, decide_eq_true hlen]; rfl
  have hlt' : i < a.arrays.length := by have := of_decide_eq_true hlt; omega
  have hlt2 : i < b.arrays.length := by omega
  obtain ⟨b4, o4, x4, rfl, hb4, hm4⟩ := ha i hlt'
  obtain ⟨b5, o5, x5, rfl, hb5, hm5⟩ := hb i hlt2
  have hLi := lists_spec w0 x4 x5 _ _ hm4 hm5 (hl.each _ (List.getElem_mem hlt'))
  refine kAutoB ?_
  (refine CJ.draws mixed 12 [rcel b2 29 _, rcel b3 29 _] (by exact kGives) (dom_of (by kernel_rfl)) ?_)
  ((first | refine kAjB 0 ?_ | refine kAjS 0 ?_); (first | refine kAjB 1 ?_ | refine kAjS 1 ?_); (first | refine kAjB 2 ?_ | refine kAjS 2 ?_))
  (apply AJ.pur (i := 3); exact rfl; exact rfl; exact rfl; exact rfl; exact rfl; exact rfl; exact rfl; exact rfl; exact rfl; (apply OpP.indexAddr; exact kEv; exact kEv; exact hlt'))
  (apply AJ.pur (i := 4); exact rfl; exact rfl; exact rfl; exact rfl; exact rfl; exact rfl; exact rfl; exact rfl; exact rfl; (apply OpP.load; exact kEv; exact HasAt.base hb4))
  ((first | refine kAjB 5 ?_ | refine kAjS 5 ?_); (first | refine kAjB 6 ?_ | refine kAjS 6 ?_); (first | refine kAjB 7 ?_ | refine kAjS 7 ?_))
  (apply AJ.pur (i := 8); exact rfl; exact rfl; exact rfl; exact rfl; exact rfl; exact rfl; exact rfl; exact rfl; exact rfl; (apply OpP.indexAddr; exact kEv; exact kEv; exact hlt2))
  (apply AJ.pur (i := 9); exact rfl; exact rfl; exact rfl; exact rfl; exact rfl; exact rfl; exact rfl; exact rfl; exact rfl; (apply OpP.load; exact kEv; exact HasAt.base hb5))
  (refine AJ.loud1 (i := 10) (by kernel_rfl) (by kernel_rfl) rfl (by kernel_rfl) (by kernel_rfl) rfl rfl rfl rfl rfl rfl (OpS.callIs (by exact kEv) inferInstance (by exact kEvl) hLi) ?_ ?_)
  · rintro _ _ ⟨rfl, rfl⟩
    refine ⟨by exact kGives, ?_⟩
    ((first | refine kAjB 11 ?_ | refine kAjS 11 ?_))
    (refine AJ.done (by kernel_rfl) (by kernel_rfl) rfl (by kernel_rfl) ?_)
    refine kAutoB ?_
    cases hx : decide ((a.arrays[i]'hlt') = (b.arrays[i]'hlt2))
    · refine kAutoB ?_
      refine XJ.ret1 rfl rfl [] (by exact kGives) ⟨?_, rfl⟩
      rw [eqMem, decide_eq_false (fun e : a.arrays = b.arrays => of_decide_eq_false hx (by simp only [e])), Bool.and_false]; rfl
    · refine kAutoB ?_
      rw [i64_up i (by omega)]
      exact XJ.round (i + 1) ⟨by omega, take_step hlt' hlt2 he (of_decide_eq_true hx)⟩ (by omega) (by exact kEsub) (by exact kGives)
  · rintro _ _ h; exact h.elim
def sameB (r s : JobRes) (all : Bool) : Bool := eqMem r.mem s.mem && decide (r.out = s.out) && ((r.read : Int) == (s.read : Int)) && (r.err == s.err) && (!all || ((r.steps : Int) == (s.steps : Int)))
theorem same_spec (w0 : World) (us vs : List Value) (r s : JobRes) (hr : ResR w0 us r) (hs : ResR w0 vs s) (hl : MemL r.mem) (ho : r.out.length ≤ maxLen) (all : Bool) :
    Spec Tryz.prog w0 22 #[.agg us.toArray, .agg vs.toArray, .bool all] [] (Is (.bool (sameB r s all))) := by
  obtain ⟨u1, u2, u3, rfl, ha1, ha2, ha3⟩ := hr
  obtain ⟨v1, v2, v3, rfl, hb1, hb2, hb3⟩ := hs
  have hE := Equal_spec w0 [u1, u2] [v1, v2] r.mem s.mem ⟨u1, u2, rfl, ha1, ha2⟩ ⟨v1, v2, rfl, hb1, hb2⟩ hl
  have hO := outputs_spec w0 u3 v3 r.out s.out ha3 hb3 ho
  refine Spec.enter (args := [_, _, _]) Tryz.func22 rfl rfl rfl (fun F => ?_)
  refine kAutoB ?_
  (apply RL.boxR; exact kEv; exact rfl; intro b3)
  (apply RL.boxR; exact kEv; exact rfl; intro b4)
  refine kAutoB ?_
  (apply RL.callIs; exact kEv; exact inferInstance; exact kEvl; exact hE; exact rfl)
  cases e1 : eqMem r.mem s.mem
  · refine kAutoB ?_
    refine XJ.ret1 rfl rfl [] (by exact kGives) ⟨?_, rfl⟩
    rw [sameB, e1]; rfl
  refine kAutoB ?_
  (apply RL.callIs; exact kEv; exact inferInstance; exact kEvl; exact hO; exact rfl)
  cases e2 : decide (r.out = s.out)
  · refine kAutoB ?_
    refine XJ.ret1 rfl rfl [] (by exact kGives) ⟨?_, rfl⟩
    rw [sameB, e1, e2]; rfl
  refine kAutoB ?_
  cases e3 : ((r.read : Int) == (s.read : Int))
  · refine kAutoB ?_
    refine XJ.ret1 rfl rfl [] (by exact kGives) ⟨?_, rfl⟩
    rw [sameB, e1, e2, e3]; rfl
  refine kAutoB ?_
  cases e4 : (r.err == s.err)
  · refine kAutoB ?_
    refine XJ.ret1 rfl rfl [] (by exact kGives) ⟨?_, rfl⟩
    rw [sameB, e1, e2, e3, e4]; rfl
  refine kAutoB ?_
  cases all
  · refine kAutoB ?_
    refine XJ.ret1 rfl rfl [] (by exact kGives) ⟨?_, rfl⟩
    rw [sameB, e1, e2, e3, e4]; rfl
  · refine kAutoB ?_
    refine XJ.ret1 rfl rfl [] (by exact kGives) ⟨?_, rfl⟩
    rw [sameB, e1, e2, e3, e4]; rfl
end Go.Proofs.YtgmapenlgammfaaGreatDoor

/- The law's bounds: count, Big, Great, small. -/
namespace Go.Proofs.YtgmapenlgammfaaGreatDoor
open Go
mutual
def countI : Node → Int → Int
  | .mk _ _ _ kids, d => if d < 1 then 1000 else countK kids (d - 1) 1
def countK : List Node → Int → Int → Int
  | [], _, s => s
  | n :: r, d, s => if s + countI n d ≥ 1000 then 1000 else countK r d (s + countI n d)
end
theorem countI_range (n : Node) : ∀ d, 1 ≤ countI n d ∧ countI n d ≤ 1000 := by
  induction n using Node.rec (motive_2 := fun l => ∀ d s, 1 ≤ s → s < 1000 → 1 ≤ countK l d s ∧ countK l d s ≤ 1000) with
  | mk k num s kids ih =>
    intro d
    rw [countI]
    split
    · omega
    · exact ih (d - 1) 1 (by omega) (by omega)
  | nil => rename_i d s h1 h2; rw [countK]; omega
  | cons n r h1 h2 =>
    rename_i d s hs1 hs2
    rw [countK]
    have := h1 d
    split
    · omega
    · exact h2 d _ (by omega) (by omega)
theorem countI_size (n : Node) : ∀ d, countI n d < 1000 → (n.size : Int) = countI n d := by
  induction n using Node.rec (motive_2 := fun l => ∀ d s, 1 ≤ s → countK l d s < 1000 → (Node.sizeAll l : Int) + s = countK l d s) with
  | mk k num s kids ih =>
    intro d h
    rw [countI] at h ⊢
    split at h
    · omega
    · rename_i h1
      rw [if_neg h1]
      have := ih (d - 1) 1 (by decide) h
      rw [Node.size]
      omega
  | nil => rename_i d s _ h; rw [countK] at h ⊢; simp [Node.sizeAll]
  | cons n r h1 h2 =>
    rename_i d s hs h
    rw [countK] at h ⊢
    split at h
    · omega
    · rename_i h3
      rw [if_neg h3]
      have hp := (countI_range n d).1
      have e2 := h2 d _ (by omega) h
      have := h1 d (by omega)
      rw [Node.sizeAll]
      omega
theorem count_spec (w0 : World) : ∀ (m : Nat) (n : Node), n.size ≤ m → ∀ (cs : List Value) (d : Int), NodeR w0 n cs → d ≤ 1000 → Spec Tryz.prog w0 68 #[.agg cs.toArray, .int .i64 d] [] (Is (.int .i64 (countI n d))) := by
  intro m
  induction m with
  | zero => intro n h; have := n.size_pos; omega
  | succ m ih =>
    intro n hm cs d hR hd
    obtain ⟨A, cap, rfl, hcap, hN⟩ := hR.kids
    have hks : ∀ k ∈ n.kids, k.size ≤ m := fun k hk => by have := Node.size_kid hk; omega
    obtain ⟨kd, num, nm, kids⟩ := n
    simp only [Node.kind, Node.num, Node.name, Node.kids] at *
    refine Spec.enter (args := [_, _]) Tryz.func68 rfl rfl rfl (fun F => ?_)
    refine kAutoB ?_
    (apply RL.boxR; exact kEv; exact rfl; intro b2)
    refine kAutoB ?_
    cases h1 : decide (d < 1)
    case true =>
      refine kAutoB ?_
      refine XJ.ret1 rfl rfl [] (by exact kGives) ⟨?_, rfl⟩
      rw [countI, if_pos (of_decide_eq_true h1)]
    have h1' := of_decide_eq_false h1
    rw [countI, if_neg h1']
    refine kAutoB ?_
    refine CJ.loop (σ := Nat × Int) (fun t => t.1 ≤ kids.length ∧ (t.1 : Int) + 1 ≤ t.2 ∧ t.2 < 1000 ∧ countK kids (d - 1) 1 = countK (kids.drop t.1) (d - 1) t.2) (fun t => [(13, .int .i64 (t.1 : Int)), (5, .int .i64 t.2), (11, .slice A kids.length cap), (12, .int .i64 kids.length), (1, .int .i64 d)]) (fun _ => F) (fun t => kids.length - t.1) (0, 1) ⟨Nat.zero_le _, by decide, by decide, rfl⟩ (by exact kEsub) (by exact kGives) ?_
    rintro ⟨i, s⟩ ⟨hi, hs1, hs2, he⟩
    simp only at hi hs1 hs2 he
    refine kAutoB ?_
    cases hlt : decide ((i : Int) < (kids.length : Int))
    · have hge : i = kids.length := by have := of_decide_eq_false hlt; omega
      refine kAutoB ?_
      refine XJ.ret1 rfl rfl [] (by exact kGives) ⟨?_, rfl⟩
      rw [he, hge, List.drop_length, countK]
    have hlt' : i < kids.length := by have := of_decide_eq_true hlt; omega
    obtain ⟨b, o, r, e1, hb, hrl, hr⟩ := hN.at_ i hlt'
    subst e1
    obtain ⟨A0, cap0, hr0, _⟩ := hr.kids
    have hd1 : kids.drop i = kids[i] :: kids.drop (i + 1) := List.drop_eq_getElem_cons hlt'
    rw [hd1, countK] at he
    have hrec := ih kids[i] (hks _ (List.getElem_mem hlt')) r (d - 1) hr (by omega)
    have hrg := countI_range kids[i] (d - 1)
    have hw1 : IntKind.i64.wrap (d - 1) = d - 1 := by simp only [IntKind.wrap, IntKind.signed, IntKind.bits]; simp; omega
    have hw2 : IntKind.i64.wrap (s + countI kids[i] (d - 1)) = s + countI kids[i] (d - 1) := by simp only [IntKind.wrap, IntKind.signed, IntKind.bits]; simp; omega
    refine kAutoB ?_
    apply RL.pur; (apply OpP.indexAddr; exact kEv; exact kEv; exact hlt'); exact rfl
    apply RL.pur; (apply OpP.loadA; exact kEv; exact HasAt.base hb; exact hrl); exact rfl
    (apply RL.alloc; exact rfl; exact rfl; intro b7)
    refine kAutoB ?_
    (apply RL.storeW; exact kEv; exact kEv; exact kTake; exact hrl; exact rfl; exact (by rw [hr0]; rfl))
    refine kAutoB ?_
    rw [hw1]
    (apply RL.callIs; exact kEv; exact inferInstance; exact kEvl; exact hrec; exact rfl)
    refine kAutoB ?_
    rw [hw2]
    cases hg : decide (s + countI kids[i] (d - 1) ≥ 1000)
    · have hg' := of_decide_eq_false hg
      rw [if_neg hg'] at he
      refine kAutoB ?_
      rw [i64_up i (by omega)]
      exact XJ.round (i + 1, s + countI kids[i] (d - 1)) ⟨by simp only; omega, by simp only; omega, by simp only; omega, he⟩ (by simp only; omega) (by exact kEsub) (by exact kGives)
    · have hg' := of_decide_eq_true hg
      rw [if_pos hg'] at he
      refine kAutoB ?_
      refine XJ.ret1 rfl rfl [] (by exact kGives) ⟨?_, rfl⟩
      rw [he]
def bigB (n : Node) : Bool := decide (countI n 40 > 500)
def bI (b : Bool) : Int := if b then 1 else 0
theorem Big_spec (w0 : World) (n : Node) (cs : List Value) (hR : NodeR w0 n cs) : Spec Tryz.prog w0 35 #[.agg cs.toArray] [] (Is (.int .i64 (bI (bigB n)))) := by
  have hc := count_spec w0 n.size n (Nat.le_refl _) cs 40 hR (by decide)
  obtain ⟨A, cap, rfl, hcap, hN⟩ := hR.kids
  refine Spec.enter (args := [_]) Tryz.func35 rfl rfl rfl (fun F => ?_)
  refine kAutoB ?_
  (apply RL.boxR; exact kEv; exact rfl; intro b1)
  refine kAutoB ?_
  (apply RL.callIs; exact kEv; exact inferInstance; exact kEvl; exact hc; exact rfl)
  refine kAutoB ?_
  cases h : decide (countI n 40 > 500)
  · refine kAutoB ?_
    refine XJ.ret1 rfl rfl [] (by exact kGives) ⟨?_, rfl⟩
    rw [bigB, h]; rfl
  · refine kAutoB ?_
    refine XJ.ret1 rfl rfl [] (by exact kGives) ⟨?_, rfl⟩
    rw [bigB, h]; rfl
theorem bigB_size {n : Node} (h : bigB n = false) : n.size ≤ 500 := by
  unfold bigB at h
  have h' := of_decide_eq_false h
  have := countI_size n 40 (by omega)
  omega
def greatT (t : Task) : Bool := decide ((t.vars.length : Int) > 20) || decide ((t.arrays.length : Int) > 10) || bigB t.body
def greatP (p : Prg) : Bool := decide ((p.shared.length : Int) > 10) || decide ((p.tasks.length : Int) > 10) || p.tasks.any greatT
theorem any_drop {α : Type} {l : List α} {f : α → Bool} {i : Nat} (h : i < l.length) : (l.drop i).any f = (f l[i] || (l.drop (i + 1)).any f) := by
  rw [List.drop_eq_getElem_cons h, List.any_cons]
theorem Great12_spec (w0 : World) (p : Prg) (cs : List Value) (hR : PrgR w0 p cs) : Spec Tryz.prog w0 45 #[.agg cs.toArray] [] (Is (.int .i64 (bI (greatP p)))) := by
  obtain ⟨A1, c1, A2, c2, rfl, h1, h2, h3, h4⟩ := hR.ex
  refine Spec.enter (args := [_]) Tryz.func45 rfl rfl rfl (fun F => ?_)
  refine kAutoB ?_
  (apply RL.boxR; exact kEv; exact rfl; intro b1)
  refine kAutoB ?_
  cases e1 : decide ((p.shared.length : Int) > 10)
  case true =>
    refine kAutoB ?_
    refine XJ.ret1 rfl rfl [] (by exact kGives) ⟨?_, rfl⟩
    rw [greatP, e1]; rfl
  refine kAutoB ?_
  cases e2 : decide ((p.tasks.length : Int) > 10)
  case true =>
    refine kAutoB ?_
    refine XJ.ret1 rfl rfl [] (by exact kGives) ⟨?_, rfl⟩
    rw [greatP, e1, e2]; rfl
  have e2' := of_decide_eq_false e2
  refine kAutoB ?_
  refine CJ.loop (σ := Nat) (fun i => i ≤ p.tasks.length ∧ p.tasks.any greatT = (p.tasks.drop i).any greatT) (fun i => [(18, .int .i64 (i : Int)), (17, .int .i64 p.tasks.length), (16, .slice A2 p.tasks.length c2)]) (fun _ => F) (fun i => p.tasks.length - i) 0 ⟨Nat.zero_le _, rfl⟩ (by exact kEsub) (by exact kGives) ?_
  rintro i ⟨hi, he⟩
  refine kAutoB ?_
  cases hlt : decide ((i : Int) < (p.tasks.length : Int))
  · have hge : i = p.tasks.length := by have := of_decide_eq_false hlt; omega
    refine kAutoB ?_
    refine XJ.ret1 rfl rfl [] (by exact kGives) ⟨?_, rfl⟩
    rw [greatP, e1, e2, he, hge, List.drop_length]; rfl
  have hlt' : i < p.tasks.length := by have := of_decide_eq_true hlt; omega
  rw [any_drop hlt'] at he
  obtain ⟨b, o, r, rfl, hb, hrl, hr⟩ := h4.at_ i hlt'
  obtain ⟨A5, c5, A6, c6, bs, rfl, g1, g2, g3, g4, g5⟩ := hr.ex
  have hB := Big_spec w0 p.tasks[i].body bs g5
  obtain ⟨A7, c7, rfl, _⟩ := g5.kids
  refine kAutoB ?_
  apply RL.pur; (apply OpP.indexAddr; exact kEv; exact kEv; exact hlt'); exact rfl
  apply RL.pur; (apply OpP.loadA; exact kEv; exact HasAt.base hb; exact hrl); exact rfl
  (apply RL.alloc; exact rfl; exact rfl; intro b4)
  refine kAutoB ?_
  (apply RL.storeW; exact kEv; exact kEv; exact kTake; exact rfl; exact rfl; exact rfl)
  refine kAutoB ?_
  have hyes : greatT p.tasks[i] = true → greatP p = true := fun h => by rw [greatP, he, h]; simp
  cases f1 : decide ((p.tasks[i].vars.length : Int) > 20)
  case true =>
    refine kAutoB ?_
    refine XJ.ret1 rfl rfl [] (by exact kGives) ⟨?_, rfl⟩
    rw [hyes (by rw [greatT, f1]; rfl)]; rfl
  refine kAutoB ?_
  cases f2 : decide ((p.tasks[i].arrays.length : Int) > 10)
  case true =>
    refine kAutoB ?_
    refine XJ.ret1 rfl rfl [] (by exact kGives) ⟨?_, rfl⟩
    rw [hyes (by rw [greatT, f1, f2]; rfl)]; rfl
  refine kAutoB ?_
  (apply RL.callIs; exact kEv; exact inferInstance; exact kEvl; exact hB; exact rfl)
  cases f3 : bigB p.tasks[i].body
  case true =>
    refine kAutoB ?_
    refine XJ.ret1 rfl rfl [] (by exact kGives) ⟨?_, rfl⟩
    rw [hyes (by rw [greatT, f1, f2, f3]; rfl)]; rfl
  have hno : greatT p.tasks[i] = false := by rw [greatT, f1, f2, f3]; rfl
  rw [hno, Bool.false_or] at he
  refine kAutoB ?_
  rw [i64_up i (by omega)]
  exact XJ.round (i + 1) ⟨by omega, he⟩ (by omega) (by exact kEsub) (by exact kGives)
def smallB (m : List (List Int)) : Bool := m.all (fun l => !decide ((l.length : Int) > 70)) && decide ((m.length : Int) ≤ 10)
theorem all_drop {α : Type} {l : List α} {f : α → Bool} {i : Nat} (h : i < l.length) : (l.drop i).all f = (f l[i] && (l.drop (i + 1)).all f) := by
  rw [List.drop_eq_getElem_cons h, List.all_cons]
theorem small_spec (w0 : World) (u : Value) (m : List (List Int)) (hm : MatR w0 u m) (hl : m.length ≤ maxLen) : Spec Tryz.prog w0 46 #[u] [] (Is (.bool (smallB m))) := by
  obtain ⟨A, c, rfl, hc, ha⟩ := hm.at_
  simp only [maxLen] at hl
  refine Spec.enter (args := [_]) Tryz.func46 rfl rfl rfl (fun F => ?_)
  refine kAutoB ?_
  refine CJ.loop (σ := Nat) (fun i => i ≤ m.length ∧ m.all (fun l => !decide ((l.length : Int) > 70)) = (m.drop i).all (fun l => !decide ((l.length : Int) > 70))) (fun i => [(7, .int .i64 (i : Int)), (6, .int .i64 m.length), (5, .slice A m.length c), (0, .slice A m.length c)]) (fun _ => F) (fun i => m.length - i) 0 ⟨Nat.zero_le _, rfl⟩ (by exact kEsub) (by exact kGives) ?_
  rintro i ⟨hi, he⟩
  refine kAutoB ?_
  cases hlt : decide ((i : Int) < (m.length : Int))
  · have hge : i = m.length := by have := of_decide_eq_false hlt; omega
    refine kAutoB ?_
    refine XJ.ret1 rfl rfl [] (by exact kGives) ⟨?_, rfl⟩
    rw [smallB, he, hge, List.drop_length]; rfl
  have hlt' : i < m.length := by have := of_decide_eq_true hlt; omega
  rw [all_drop hlt'] at he
  obtain ⟨b1, o1, A1, c1, rfl, hb1, hc1, hr1⟩ := ha i hlt'
  refine kAutoB ?_
  apply RL.pur; (apply OpP.indexAddr; exact kEv; exact kEv; exact hlt'); exact rfl
  refine kAutoB ?_
  cases f : decide (((m[i]'hlt').length : Int) > 70)
  · rw [f] at he
    refine kAutoB ?_
    rw [i64_up i (by omega)]
    exact XJ.round (i + 1) ⟨by omega, he⟩ (by omega) (by exact kEsub) (by exact kGives)
  · rw [f] at he
    refine kAutoB ?_
    refine XJ.ret1 rfl rfl [] (by exact kGives) ⟨?_, rfl⟩
    rw [smallB, he]; rfl
def greatL (p : Prg) (m : Mem) (inp : List Int) : Bool := greatP p || !smallB m.shared || decide ((m.arrays.length : Int) > 10) || decide ((inp.length : Int) > 40) || m.arrays.any (fun q => !smallB q)
theorem Great16_spec (w0 : World) (p : Prg) (cs : List Value) (hR : PrgR w0 p cs) (m : Mem) (ms : List Value) (hM : MemR w0 ms m) (hl : m.shared.length ≤ maxLen) (hla : ∀ q ∈ m.arrays, q.length ≤ maxLen) (inV : Value) (inp : List Int) (hin : IntsR w0 inV inp) :
    Spec Tryz.prog w0 14 #[.agg cs.toArray, .agg ms.toArray, inV] [] (Is (.int .i64 (bI (greatL p m inp)))) := by
  have hG := Great12_spec w0 p cs hR
  obtain ⟨A1, c1, A2, c2, rfl, h1, h2, h3, h4⟩ := hR.ex
  obtain ⟨u, v, rfl, hu, hv⟩ := hM
  have hS := small_spec w0 v m.shared hv hl
  obtain ⟨A, c, rfl, hc, ha⟩ := hu.at_
  obtain ⟨Ai, ci, rfl, hci, hri⟩ := hin
  refine Spec.enter (args := [_, _, _]) Tryz.func14 rfl rfl rfl (fun F => ?_)
  refine kAutoB ?_
  (apply RL.boxR; exact kEv; exact rfl; intro b3)
  (apply RL.boxR; exact kEv; exact rfl; intro b4)
  refine kAutoB ?_
  (apply RL.callIs; exact kEv; exact inferInstance; exact kEvl; exact hG; exact rfl)
  cases e1 : greatP p
  case true =>
    refine kAutoB ?_
    refine XJ.ret1 rfl rfl [] (by exact kGives) ⟨?_, rfl⟩
    rw [greatL, e1]; rfl
  refine kAutoB ?_
  (apply RL.callIs; exact kEv; exact inferInstance; exact kEvl; exact hS; exact rfl)
  cases e2 : smallB m.shared
  case false =>
    refine kAutoB ?_
    refine XJ.ret1 rfl rfl [] (by exact kGives) ⟨?_, rfl⟩
    rw [greatL, e1, e2]; rfl
  refine kAutoB ?_
  cases e3 : decide ((m.arrays.length : Int) > 10)
  case true =>
    refine kAutoB ?_
    refine XJ.ret1 rfl rfl [] (by exact kGives) ⟨?_, rfl⟩
    rw [greatL, e1, e2, e3]; rfl
  have e3' := of_decide_eq_false e3
  refine kAutoB ?_
  cases e4 : decide ((inp.length : Int) > 40)
  case true =>
    refine kAutoB ?_
    refine XJ.ret1 rfl rfl [] (by exact kGives) ⟨?_, rfl⟩
    rw [greatL, e1, e2, e3, e4]; rfl
  refine kAutoB ?_
  refine CJ.loop (σ := Nat) (fun i => i ≤ m.arrays.length ∧ m.arrays.any (fun q => !smallB q) = (m.arrays.drop i).any (fun q => !smallB q)) (fun i => [(32, .int .i64 (i : Int)), (31, .int .i64 m.arrays.length), (30, .slice A m.arrays.length c)]) (fun _ => F) (fun i => m.arrays.length - i) 0 ⟨Nat.zero_le _, rfl⟩ (by exact kEsub) (by exact kGives) ?_
  rintro i ⟨hi, he⟩
  refine kAutoB ?_
  cases hlt : decide ((i : Int) < (m.arrays.length : Int))
  · have hge : i = m.arrays.length := by have := of_decide_eq_false hlt; omega
    refine kAutoB ?_
    refine XJ.ret1 rfl rfl [] (by exact kGives) ⟨?_, rfl⟩
    rw [greatL, e1, e2, e3, e4, he, hge, List.drop_length]; rfl
  have hlt' : i < m.arrays.length := by have := of_decide_eq_true hlt; omega
  rw [any_drop hlt'] at he
  obtain ⟨b1, o1, x1, rfl, hb1, hm1⟩ := ha i hlt'
  have hS1 := small_spec w0 x1 _ hm1 (hla _ (List.getElem_mem hlt'))
  refine kAutoB ?_
  apply RL.pur; (apply OpP.indexAddr; exact kEv; exact kEv; exact hlt'); exact rfl
  apply RL.pur; (apply OpP.load; exact kEv; exact HasAt.base hb1); exact rfl
  refine kAutoB ?_
  (apply RL.callIs; exact kEv; exact inferInstance; exact kEvl; exact hS1; exact rfl)
  cases f : smallB (m.arrays[i]'hlt')
  · rw [f] at he
    refine kAutoB ?_
    refine XJ.ret1 rfl rfl [] (by exact kGives) ⟨?_, rfl⟩
    rw [greatL, e1, e2, e3, e4, he]; rfl
  · rw [f] at he
    refine kAutoB ?_
    rw [i64_up i (by omega)]
    exact XJ.round (i + 1) ⟨by omega, he⟩ (by omega) (by exact kEsub) (by exact kGives)
end Go.Proofs.YtgmapenlgammfaaGreatDoor

/- The law's precondition: shape, Fits of the reference, runnable. -/
namespace Go.Proofs.YtgmapenlgammfaaGreatDoor
open Go
theorem shape_spec (w0 : World) (A : Option Addr) (c : Nat) (l : List Arr) (v : Value) (m : List (List Int)) (hl : l.length ≤ maxLen) (hR : RowsB w0 2 A (l.map arrRow)) (hm : MatR w0 v m) :
    Spec Tryz.prog w0 53 #[.slice A l.length c, v] [] (Is (.bool (sizedB l m))) := by
  obtain ⟨B, d, rfl, hd, ha⟩ := hm.at_
  simp only [maxLen] at hl
  refine Spec.enter (args := [_, _]) Tryz.func53 rfl rfl rfl (fun F => ?_)
  refine kAutoB ?_
  cases hne : ((l.length : Int) != (m.length : Int))
  case true =>
    have hn : l.length ≠ m.length := by simp at hne; omega
    refine kAutoB ?_
    refine XJ.ret1 rfl rfl [] (by exact kGives) ⟨?_, rfl⟩
    rw [sizedB, decide_eq_false hn]; rfl
  have hlen : l.length = m.length := by simp at hne; omega
  refine kAutoB ?_
  refine CJ.loop (σ := Nat) (fun i => i ≤ l.length ∧ ∀ j, j < i → decide (((m.getD j []).length : Int) = (l.getD j arr0).len) = true) (fun i => [(5, .int .i64 (i : Int)), (0, .slice A l.length c), (1, .slice B m.length d)]) (fun _ => F) (fun i => l.length - i) 0 ⟨Nat.zero_le _, fun j hj => by omega⟩ (by exact kEsub) (by exact kGives) ?_
  rintro i ⟨hi, he⟩
  refine kAutoB ?_
  cases hlt : decide ((i : Int) < (l.length : Int))
  · have hge : i = l.length := by have := of_decide_eq_false hlt; omega
    refine kAutoB ?_
    refine XJ.ret1 rfl rfl [] (by exact kGives) ⟨?_, rfl⟩
    rw [sizedB, decide_eq_true hlen, allI_true _ _ (fun j hj => he j (by omega))]; rfl
  have hlt' : i < l.length := by have := of_decide_eq_true hlt; omega
  have hlt2 : i < m.length := by omega
  obtain ⟨b1, o1, rfl, hl1, hb1⟩ := hR.at_ i (by simpa using hlt')
  simp only [List.getElem_map, arrRow] at hb1
  have hb11 := hb1.one 1 rfl
  obtain ⟨b2, o2, A2, c2, rfl, hb2, hc2, hr2⟩ := ha i hlt2
  have hq : decide (((m.getD i []).length : Int) = (l.getD i arr0).len) = !((m[i]'hlt2).length != l[i].len : Bool) := by
    rw [List.getD_eq_getElem?_getD, List.getElem?_eq_getElem hlt2, List.getD_eq_getElem?_getD, List.getElem?_eq_getElem hlt']
    simp only [Option.getD_some, bne, Bool.not_not]
    rfl
  refine kAutoB ?_
  (refine CJ.draws mixed 11 _ (by exact kGives) (dom_of (by kernel_rfl)) ?_)
  ((first | refine kAjB 0 ?_ | refine kAjS 0 ?_); (first | refine kAjB 1 ?_ | refine kAjS 1 ?_))
  (apply AJ.pur (i := 2); exact rfl; exact rfl; exact rfl; exact rfl; exact rfl; exact rfl; exact rfl; exact rfl; exact rfl; (apply OpP.indexAddr; exact kEv; exact kEv; exact hlt2))
  ((first | refine kAjB 3 ?_ | refine kAjS 3 ?_); (first | refine kAjB 4 ?_ | refine kAjS 4 ?_); (first | refine kAjB 5 ?_ | refine kAjS 5 ?_); (first | refine kAjB 6 ?_ | refine kAjS 6 ?_))
  (apply AJ.pur (i := 7); exact rfl; exact rfl; exact rfl; exact rfl; exact rfl; exact rfl; exact rfl; exact rfl; exact rfl; (apply OpP.indexAddr; exact kEv; exact kEv; exact hlt'))
  ((first | refine kAjB 8 ?_ | refine kAjS 8 ?_); (first | refine kAjB 9 ?_ | refine kAjS 9 ?_); (first | refine kAjB 10 ?_ | refine kAjS 10 ?_))
  (refine AJ.done (by kernel_rfl) (by kernel_rfl) rfl (by kernel_rfl) ?_)
  refine kAutoB ?_
  cases hx : (((m[i]'hlt2).length : Int) != l[i].len)
  · rw [hx] at hq
    refine kAutoB ?_
    rw [i64_up i (by omega)]
    refine XJ.round (i + 1) ⟨by omega, fun j hj => ?_⟩ (by omega) (by exact kEsub) (by exact kGives)
    by_cases hji : j = i
    · subst hji; exact hq
    · exact he j (by omega)
  · rw [hx] at hq
    refine kAutoB ?_
    refine XJ.ret1 rfl rfl [] (by exact kGives) ⟨?_, rfl⟩
    rw [sizedB, allI_false _ _ i hlt' hq, Bool.and_false]
def refFitsB (p : Prg) (m : Mem) : Bool := decide (m.arrays.length = p.tasks.length) && sizedB p.shared m.shared && tasksB p.tasks m.arrays
theorem refFits_spec (w0 : World) (p : Prg) (cs : List Value) (hR : PrgR w0 p cs) (hf : Fit p) (m : Mem) (u v : Value) (hu : CubR w0 u m.arrays) (hv : MatR w0 v m.shared) :
    Spec Tryz.prog w0 20 #[.agg cs.toArray, u, v] [] (Is (.bool (refFitsB p m))) := by
  obtain ⟨A1, c1, A2, c2, rfl, h1, h2, h3, h4⟩ := hR.ex
  have hmx : (4611686018427387904 : Nat) ≤ maxLen := by simp [maxLen]
  have hS := shape_spec w0 A1 c1 p.shared v m.shared (by have := hf.shared; omega) h3 hv
  obtain ⟨B, d, rfl, hd, ha⟩ := hu.at_
  have hft := hf.tasks
  refine Spec.enter (args := [_, _, _]) Tryz.func20 rfl rfl rfl (fun F => ?_)
  refine kAutoB ?_
  (apply RL.boxR; exact kEv; exact rfl; intro b3)
  refine kAutoB ?_
  cases hne : ((m.arrays.length : Int) != (p.tasks.length : Int))
  case true =>
    have hn : m.arrays.length ≠ p.tasks.length := by simp at hne; omega
    refine kAutoB ?_
    refine XJ.ret1 rfl rfl [] (by exact kGives) ⟨?_, rfl⟩
    rw [refFitsB, decide_eq_false hn]; rfl
  have hlen : m.arrays.length = p.tasks.length := by simp at hne; omega
  refine kAutoB ?_
  (apply RL.callIs; exact kEv; exact inferInstance; exact kEvl; exact hS; exact rfl)
  cases e1 : sizedB p.shared m.shared
  case false =>
    refine kAutoB ?_
    refine XJ.ret1 rfl rfl [] (by exact kGives) ⟨?_, rfl⟩
    rw [refFitsB, e1, Bool.and_false, Bool.false_and]
  refine kAutoB ?_
  refine CJ.loop (σ := Nat) (fun i => i ≤ m.arrays.length ∧ ∀ j, j < i → sizedB (p.tasks.getD j task0).arrays (m.arrays.getD j []) = true) (fun i => [(7, .int .i64 (i : Int)), (3, .pointer (some ⟨b3, 0, none⟩)), (1, .slice B m.arrays.length d)]) (fun _ => rcel b3 25 [.slice A1 p.shared.length c1, .slice A2 p.tasks.length c2] :: F) (fun i => m.arrays.length - i) 0 ⟨Nat.zero_le _, fun j hj => by omega⟩ (by exact kEsub) (by exact kGives) ?_
  rintro i ⟨hi, he⟩
  refine kAutoB ?_
  cases hlt : decide ((i : Int) < (m.arrays.length : Int))
  · have hge : i = m.arrays.length := by have := of_decide_eq_false hlt; omega
    refine kAutoB ?_
    refine XJ.ret1 rfl rfl [] (by exact kGives) ⟨?_, rfl⟩
    rw [refFitsB, decide_eq_true hlen, e1, tasksB, decide_eq_true hlen.symm, allI_true _ _ (fun j hj => he j (by omega))]; rfl
  have hlt' : i < m.arrays.length := by have := of_decide_eq_true hlt; omega
  have hlt2 : i < p.tasks.length := by omega
  obtain ⟨b2, o2, x2, rfl, hb2, hm2⟩ := ha i hlt'
  obtain ⟨b, o, r, rfl, hb, hrl, hr⟩ := h4.at_ i hlt2
  obtain ⟨A5, c5, A6, c6, bs, rfl, g1, g2, g3, g4, g5⟩ := hr.ex
  have hb3 := hb.one 3 rfl
  have hS2 := shape_spec w0 A6 c6 p.tasks[i].arrays x2 _ (by have := (hf.each _ (List.getElem_mem hlt2)).2.1; omega) g4 hm2
  have hq : sizedB (p.tasks.getD i task0).arrays (m.arrays.getD i []) = sizedB p.tasks[i].arrays (m.arrays[i]'hlt') := by
    rw [List.getD_eq_getElem?_getD, List.getElem?_eq_getElem hlt2, List.getD_eq_getElem?_getD, List.getElem?_eq_getElem hlt']
    rfl
  refine kAutoB ?_
  (refine CJ.draws mixed 12 [rcel b3 25 _] (by exact kGives) (dom_of (by kernel_rfl)) ?_)
  ((first | refine kAjB 0 ?_ | refine kAjS 0 ?_); (first | refine kAjB 1 ?_ | refine kAjS 1 ?_); (first | refine kAjB 2 ?_ | refine kAjS 2 ?_))
  (apply AJ.pur (i := 3); exact rfl; exact rfl; exact rfl; exact rfl; exact rfl; exact rfl; exact rfl; exact rfl; exact rfl; (apply OpP.indexAddr; exact kEv; exact kEv; exact hlt2))
  ((first | refine kAjB 4 ?_ | refine kAjS 4 ?_); (first | refine kAjB 5 ?_ | refine kAjS 5 ?_); (first | refine kAjB 6 ?_ | refine kAjS 6 ?_); (first | refine kAjB 7 ?_ | refine kAjS 7 ?_))
  (apply AJ.pur (i := 8); exact rfl; exact rfl; exact rfl; exact rfl; exact rfl; exact rfl; exact rfl; exact rfl; exact rfl; (apply OpP.indexAddr; exact kEv; exact kEv; exact hlt'))
  (apply AJ.pur (i := 9); exact rfl; exact rfl; exact rfl; exact rfl; exact rfl; exact rfl; exact rfl; exact rfl; exact rfl; (apply OpP.load; exact kEv; exact HasAt.base hb2))
  (refine AJ.loud1 (i := 10) (by kernel_rfl) (by kernel_rfl) rfl (by kernel_rfl) (by kernel_rfl) rfl rfl rfl rfl rfl rfl (OpS.callIs (by exact kEv) inferInstance (by exact kEvl) hS2) ?_ ?_)
  · rintro _ _ ⟨rfl, rfl⟩
    refine ⟨by exact kGives, ?_⟩
    ((first | refine kAjB 11 ?_ | refine kAjS 11 ?_))
    (refine AJ.done (by kernel_rfl) (by kernel_rfl) rfl (by kernel_rfl) ?_)
    refine kAutoB ?_
    cases hx : sizedB p.tasks[i].arrays (m.arrays[i]'hlt')
    · rw [hx] at hq
      refine kAutoB ?_
      refine XJ.ret1 rfl rfl [] (by exact kGives) ⟨?_, rfl⟩
      rw [refFitsB, tasksB, allI_false _ _ i hlt2 hq, Bool.and_false, Bool.and_false]
    · rw [hx] at hq
      refine kAutoB ?_
      rw [i64_up i (by omega)]
      refine XJ.round (i + 1) ⟨by omega, fun j hj => ?_⟩ (by omega) (by exact kEsub) (by exact kGives)
      by_cases hji : j = i
      · subst hji; exact hq
      · exact he j (by omega)
  · rintro _ _ h; exact h.elim
def runB (p : Prg) (t : Int) (m : Mem) : Bool := okB p && decide (t ≥ 0) && decide (t < (p.tasks.length : Int)) && refFitsB p m
theorem runnable_spec (w0 : World) (hT : Tab w0) (p : Prg) (cs : List Value) (hR : PrgR w0 p cs) (hf : Fit p) (m : Mem) (ms : List Value) (hM : MemR w0 ms m) (t : Int) :
    Spec Tryz.prog w0 23 #[.agg cs.toArray, .int .i64 t, .agg ms.toArray] [] (Is (.bool (runB p t m))) := by
  have hok := ok_spec w0 hT p cs hf hR
  obtain ⟨u, v, rfl, hu, hv⟩ := hM
  have hF := refFits_spec w0 p cs hR hf m u v hu hv
  obtain ⟨A1, c1, A2, c2, rfl, h1, h2, h3, h4⟩ := hR.ex
  refine Spec.enter (args := [_, _, _]) Tryz.func23 rfl rfl rfl (fun F => ?_)
  refine kAutoB ?_
  (apply RL.boxR; exact kEv; exact rfl; intro b3)
  (apply RL.boxR; exact kEv; exact rfl; intro b5)
  refine kAutoB ?_
  (apply RL.callIs; exact kEv; exact inferInstance; exact kEvl; exact hok; exact rfl)
  cases e1 : okB p
  · refine kAutoB ?_
    refine XJ.ret1 rfl rfl [] (by exact kGives) ⟨?_, rfl⟩
    rw [runB, e1]; rfl
  refine kAutoB ?_
  cases e2 : decide (t ≥ 0)
  · refine kAutoB ?_
    refine XJ.ret1 rfl rfl [] (by exact kGives) ⟨?_, rfl⟩
    rw [runB, e1, e2]; rfl
  refine kAutoB ?_
  cases e3 : decide (t < (p.tasks.length : Int))
  · refine kAutoB ?_
    refine XJ.ret1 rfl rfl [] (by exact kGives) ⟨?_, rfl⟩
    rw [runB, e1, e2, e3]; rfl
  refine kAutoB ?_
  (apply RL.callIs; exact kEv; exact inferInstance; exact kEvl; exact hF; exact rfl)
  refine kAutoB ?_
  refine XJ.ret1 rfl rfl [] (by exact kGives) ⟨?_, rfl⟩
  rw [runB, e1, e2, e3]; rfl
end Go.Proofs.YtgmapenlgammfaaGreatDoor

/- The law's example. -/
namespace Go.Proofs.YtgmapenlgammfaaGreatDoor
open Go
theorem RL.bsl {P : Program} {w0 : World} {n : Nat} {ops : Array Oper} {Q : Exit → Act → World → Prop} {L : Env} {M : List HProp} {l : List Oper} {T : TypeId} {p : String} {af : Array Edge}
    {d : Nat} {t E sz : TypeId} {len : Nat} [q : SliceT P t E sz] {ps : List (Nat × Operand)} {xs : List Operand} {vs : List Value} (vs' : List Value) (hp : ps.map (·.2) = xs) (hx : EvL L xs vs)
    (hr : ∀ w : World, (Instr.buildSlice t len ((ps.map (·.1)).zip vs).toArray).run P w = .ok (.slice (some ⟨w.heap.size, 0, none⟩) len len) { w with heap := w.heap.push (.cells vs'.toArray E (0, 0)) }) (hd : Nat.blt d n = true)
    (k : ∀ b, RL P w0 n ops Q l ((d, .slice (some ⟨b, 0, none⟩) len len) :: L) (cel b E vs' :: M)) : RL P w0 n ops Q (⟨some d, .buildSlice t len ps.toArray, T, p, af, none⟩ :: l) L M :=
  RL.s (OpS.buildSlice vs' hp hx hr) hd (by rintro _ _ ⟨b, rfl, rfl⟩; exact k b) (fun _ _ h => h.elim)
def vN (s : ByteArray) : List Value := [.int .u8 2, .int .i64 0, .string s, .slice none 0 0]
def nV (k n : Int) (s : ByteArray) (b len : Nat) : List Value := [.int .u8 k, .int .i64 n, .string s, .slice (some ⟨b, 0, none⟩) len len]
def sI : ByteArray := ⟨#[105]⟩
def sX : ByteArray := ⟨#[120]⟩
def sA : ByteArray := ⟨#[97]⟩
def sTa : ByteArray := ⟨#[116, 97]⟩
def sE : ByteArray := ⟨#[]⟩
theorem sample1_spec (w0 : World) (s : ByteArray) : Spec Tryz.prog w0 82 #[.string s] [] (Is (.agg (vN s).toArray)) := by
  refine Spec.enter (args := [_]) Tryz.func82 rfl rfl rfl (fun F => ?_)
  refine kAutoB ?_
  (apply RL.alloc; exact rfl; exact rfl; intro b2)
  refine kAutoB ?_
  (apply RL.build (r := .agg #[.int .u8 2, .int .i64 0, .string s, .slice none 0 0]); exact rfl; exact kEvl; (intro w; kernel_rfl); exact rfl)
  (apply RL.storeA; exact kEv; exact kEv; exact kTake; exact rfl; exact rfl; exact rfl)
  refine kAutoB ?_
  exact XJ.retC rfl rfl (HasAt.pt (Takes.here _ _) atAll) rfl [] (by exact kGives) ⟨rfl, rfl⟩
def nVar (s : ByteArray) : Node := .mk 2 0 s []
def setN : Node := .mk 40 0 sE [.mk 3 0 sA [nVar sI], nVar sX]
def addN : Node := .mk 40 0 sE [nVar sX, .mk 6 0 sE [nVar sX, nVar sI]]
def loopN : Node := .mk 42 3 sI [.mk 47 0 sE [setN, addN]]
def outN : Node := .mk 45 1 sE [nVar sX]
def sampleP : Prg := ⟨[], [⟨sTa, 5, [sX], [⟨sA, 3⟩], .mk 47 0 sE [loopN, outN]⟩]⟩
section
attribute [local semireducible] Base
theorem rows_flat {w : World} {b sz : Nat} : ∀ (rows : List (List Value)) (o : Nat), (∀ r ∈ rows, r.length = sz) → Base w b o rows.flatten → ∀ (i : Nat) r, rows[i]? = some r → r.length = sz ∧ Base w b (o + i * sz) r
  | [], _, _, _, i, r, h => by simp at h
  | x :: rows, o, hs, hb, i, r, h => by
    rcases i with _ | i
    · simp at h
      subst h
      refine ⟨hs x (by simp), ?_⟩
      intro j v hv
      have := hb j v (by
        rw [List.flatten_cons, List.getElem?_append_left]
        · exact hv
        · exact (List.getElem?_eq_some_iff.1 hv).1)
      simpa using this
    · simp at h
      have hx := hs x (by simp)
      have := rows_flat rows (o + sz) (fun r hr => hs r (by simp [hr])) (fun j v hv => by
        have := hb (sz + j) v (by
          rw [List.flatten_cons, List.getElem?_append_right (by omega), hx, show sz + j - sz = j by omega]
          exact hv)
        rw [show o + (sz + j) = o + sz + j by omega] at this
        exact this) i r h
      rw [show o + (i + 1) * sz = o + sz + i * sz by rw [Nat.add_mul, Nat.one_mul]; omega]
      exact this
end
theorem rowsB_flat {w : World} {b sz : Nat} {rows : List (List Value)} (hs : ∀ r ∈ rows, r.length = sz) (hb : Base w b 0 rows.flatten) : RowsB w sz (some ⟨b, 0, none⟩) rows := fun i r h => by
  obtain ⟨h1, h2⟩ := rows_flat rows 0 hs hb i r h
  exact ⟨b, 0, rfl, h1, h2⟩
theorem nodeR_var (w : World) (s : ByteArray) : NodeR w (nVar s) (vN s) := NodeR.mk (rows := []) rfl (Nat.le_refl _) (fun i r h => by simp at h) (fun i m r h => by simp at h)
theorem nodeR_one {w : World} {k n : Int} {s : ByteArray} {b : Nat} {x : Node} {r : List Value} (hl : r.length = 4) (hx : NodeR w x r) (hb : Base w b 0 r) : NodeR w (.mk k n s [x]) (nV k n s b 1) :=
  NodeR.mk (rows := [r]) rfl (Nat.le_refl _) (rowsB_flat (by simpa using hl) (by simpa using hb)) (fun i m q h1 h2 => by
    rcases i with _ | i
    · simp at h1 h2; subst h1 h2; exact hx
    · simp at h1)
theorem nodeR_two {w : World} {k n : Int} {s : ByteArray} {b : Nat} {x y : Node} {r q : List Value} (hl : r.length = 4) (hl2 : q.length = 4) (hx : NodeR w x r) (hy : NodeR w y q) (hb : Base w b 0 (r ++ q)) : NodeR w (.mk k n s [x, y]) (nV k n s b 2) :=
  NodeR.mk (rows := [r, q]) rfl (Nat.le_refl _) (rowsB_flat (by simp [hl, hl2]) (by simpa using hb)) (fun i m z h1 h2 => by
    rcases i with _ | _ | i
    · simp at h1 h2; subst h1 h2; exact hx
    · simp at h1 h2; subst h1 h2; exact hy
    · simp at h1)
theorem sample_spec (w0 : World) : Spec Tryz.prog w0 44 #[] [] (Ret (fun v N => ∃ cs, v = .agg cs.toArray ∧ ∀ b w h F, star (N ++ F) h → Go.Proofs.YtgmapenlgammfaaGreatDoor.Sat b w h → PrgR w sampleP cs) noP) := by
  refine Spec.enter (args := []) Tryz.func44 rfl rfl rfl (fun F => ?_)
  refine kAutoB ?_
  (apply RL.alloc; exact rfl; exact rfl; intro b0)
  refine kAutoB ?_
  (apply RL.callIs; exact kEv; exact inferInstance; exact kEvl; exact (sample1_spec w0 sI); exact rfl)
  refine RL.bsl (vN sI) rfl (by exact kEvl) (fun w => by kernel_rfl) rfl (fun b9 => ?_)
  (apply RL.build (r := .agg (nV 3 0 sA b9 1).toArray); exact rfl; exact kEvl; (intro w; kernel_rfl); exact rfl)
  (apply RL.alloc; exact rfl; exact rfl; intro b2)
  (apply RL.storeA; exact kEv; exact kEv; exact kTake; exact rfl; exact rfl; exact rfl)
  refine kAutoB ?_
  refine CJ.cut (σ := Nat × Nat) (fun _ => True) (fun t => [(3, .pointer (some ⟨t.1, 0, none⟩)), (2, .pointer (some ⟨b2, 0, none⟩)), (1, .func (.func 82) #[] #[]), (0, .pointer (some ⟨b0, 0, none⟩))])
    (fun t => cel t.1 50 (nV 40 0 sE t.2 2) :: cel t.2 50 (nV 3 0 sA b9 1 ++ vN sX) :: cel b2 50 (nV 3 0 sA b9 1) :: cel b9 50 (vN sI) :: cel b0 25 [.slice none 0 0, .slice none 0 0] :: F) ?_ ?_
  · (refine CJ.draws mixed 6 [cel b2 _ _] (by exact kGives) (dom_of (by kernel_rfl)) ?_)
    ((first | refine kAjB 0 ?_ | refine kAjS 0 ?_); (first | refine kAjB 1 ?_ | refine kAjS 1 ?_))
    (refine AJ.loud2 (i := 2) (j := 5) (by kernel_rfl) (by kernel_rfl) rfl (by kernel_rfl) (by kernel_rfl) rfl rfl rfl rfl rfl rfl rfl rfl rfl rfl rfl rfl (OpS.callIs (by exact kEv) inferInstance (by exact kEvl) (sample1_spec w0 sX)) (OpS.alloc (P := Tryz.prog) (vs := [.int .u8 0, .int .i64 0, .string ⟨#[]⟩, .slice none 0 0]) rfl) ?_ ?_ ?_ ?_)
    · rintro _ _ ⟨rfl, rfl⟩
      refine ⟨by exact kGives, ?_⟩
      (refine AJ.loud2 (i := 3) (j := 5) (by kernel_rfl) (by kernel_rfl) rfl (by kernel_rfl) (by kernel_rfl) rfl rfl rfl rfl rfl rfl rfl rfl rfl rfl rfl rfl (OpS.buildSlice (E := 50) (nV 3 0 sA b9 1 ++ vN sX) rfl (by exact kEvl) (fun w => by kernel_rfl)) (OpS.alloc (P := Tryz.prog) (vs := [.int .u8 0, .int .i64 0, .string ⟨#[]⟩, .slice none 0 0]) rfl) ?_ ?_ ?_ ?_)
      · rintro _ _ ⟨b14, rfl, rfl⟩
        refine ⟨by exact kGives, ?_⟩
        (apply AJ.pur (i := 4); exact rfl; exact rfl; exact rfl; exact rfl; exact rfl; exact rfl; exact rfl; exact rfl; exact rfl; (refine OpP.build (xs := [.const (.int .u8 40), .tmp 14]) (vs := [.int .u8 40, .slice (some ⟨b14, 0, none⟩) 2 2]) (r := .agg (nV 40 0 sE b14 2).toArray) (by exact kEvl) rfl (fun w => by kernel_rfl)))
        (refine AJ.loud1 (i := 5) (by kernel_rfl) (by kernel_rfl) rfl (by kernel_rfl) (by kernel_rfl) rfl rfl rfl rfl rfl rfl (OpS.alloc (P := Tryz.prog) (vs := [.int .u8 0, .int .i64 0, .string ⟨#[]⟩, .slice none 0 0]) rfl) ?_ ?_)
        · rintro _ _ ⟨b3, rfl, rfl⟩
          refine ⟨by exact kGives, ?_⟩
          (refine AJ.tail (by kernel_rfl) (by kernel_rfl) rfl (by kernel_rfl) (by kernel_rfl) (by kernel_rfl) ?_)
          (apply RL.storeA; exact kEv; exact kEv; exact kTake; exact rfl; exact rfl; exact rfl)
          refine kAutoB ?_
          exact XJ.meet (b3, b14) trivial (by exact kEsub) (by exact kGives)
        · rintro _ _ h; exact h.elim
      · rintro _ _ h; exact h.elim
      · rintro _ _ ⟨b3, rfl, rfl⟩
        refine ⟨by exact kGives, ?_⟩
        (refine AJ.loud1 (i := 3) (by kernel_rfl) (by kernel_rfl) rfl (by kernel_rfl) (by kernel_rfl) rfl rfl rfl rfl rfl rfl (OpS.buildSlice (E := 50) (nV 3 0 sA b9 1 ++ vN sX) rfl (by exact kEvl) (fun w => by kernel_rfl)) ?_ ?_)
        · rintro _ _ ⟨b14, rfl, rfl⟩
          refine ⟨by exact kGives, ?_⟩
          (apply AJ.pur (i := 4); exact rfl; exact rfl; exact rfl; exact rfl; exact rfl; exact rfl; exact rfl; exact rfl; exact rfl; (refine OpP.build (xs := [.const (.int .u8 40), .tmp 14]) (vs := [.int .u8 40, .slice (some ⟨b14, 0, none⟩) 2 2]) (r := .agg (nV 40 0 sE b14 2).toArray) (by exact kEvl) rfl (fun w => by kernel_rfl)))
          (refine AJ.tail (by kernel_rfl) (by kernel_rfl) rfl (by kernel_rfl) (by kernel_rfl) (by kernel_rfl) ?_)
          (apply RL.storeA; exact kEv; exact kEv; exact kTake; exact rfl; exact rfl; exact rfl)
          refine kAutoB ?_
          exact XJ.meet (b3, b14) trivial (by exact kEsub) (by exact kGives)
        · rintro _ _ h; exact h.elim
      · rintro _ _ h; exact h.elim
    · rintro _ _ h; exact h.elim
    · rintro _ _ ⟨b3, rfl, rfl⟩
      refine ⟨by exact kGives, ?_⟩
      (refine AJ.loud1 (i := 2) (by kernel_rfl) (by kernel_rfl) rfl (by kernel_rfl) (by kernel_rfl) rfl rfl rfl rfl rfl rfl (OpS.callIs (by exact kEv) inferInstance (by exact kEvl) (sample1_spec w0 sX)) ?_ ?_)
      · rintro _ _ ⟨rfl, rfl⟩
        refine ⟨by exact kGives, ?_⟩
        (refine AJ.loud1 (i := 3) (by kernel_rfl) (by kernel_rfl) rfl (by kernel_rfl) (by kernel_rfl) rfl rfl rfl rfl rfl rfl (OpS.buildSlice (E := 50) (nV 3 0 sA b9 1 ++ vN sX) rfl (by exact kEvl) (fun w => by kernel_rfl)) ?_ ?_)
        · rintro _ _ ⟨b14, rfl, rfl⟩
          refine ⟨by exact kGives, ?_⟩
          (apply AJ.pur (i := 4); exact rfl; exact rfl; exact rfl; exact rfl; exact rfl; exact rfl; exact rfl; exact rfl; exact rfl; (refine OpP.build (xs := [.const (.int .u8 40), .tmp 14]) (vs := [.int .u8 40, .slice (some ⟨b14, 0, none⟩) 2 2]) (r := .agg (nV 40 0 sE b14 2).toArray) (by exact kEvl) rfl (fun w => by kernel_rfl)))
          (refine AJ.tail (by kernel_rfl) (by kernel_rfl) rfl (by kernel_rfl) (by kernel_rfl) (by kernel_rfl) ?_)
          (apply RL.storeA; exact kEv; exact kEv; exact kTake; exact rfl; exact rfl; exact rfl)
          refine kAutoB ?_
          exact XJ.meet (b3, b14) trivial (by exact kEsub) (by exact kGives)
        · rintro _ _ h; exact h.elim
      · rintro _ _ h; exact h.elim
    · rintro _ _ h; exact h.elim
  rintro ⟨b3, b14⟩ -
  refine kAutoB ?_
  (apply RL.callIs; exact kEv; exact inferInstance; exact kEvl; exact (sample1_spec w0 sX); exact rfl)
  refine kAutoB ?_
  (apply RL.callIs; exact kEv; exact inferInstance; exact kEvl; exact (sample1_spec w0 sX); exact rfl)
  refine kAutoB ?_
  (apply RL.callIs; exact kEv; exact inferInstance; exact kEvl; exact (sample1_spec w0 sI); exact rfl)
  refine RL.bsl (vN sX ++ vN sI) rfl (by exact kEvl) (fun w => by kernel_rfl) rfl (fun b22 => ?_)
  (apply RL.build (r := .agg (nV 6 0 sE b22 2).toArray); exact rfl; exact kEvl; (intro w; kernel_rfl); exact rfl)
  refine RL.bsl (vN sX ++ nV 6 0 sE b22 2) rfl (by exact kEvl) (fun w => by kernel_rfl) rfl (fun b24 => ?_)
  (apply RL.build (r := .agg (nV 40 0 sE b24 2).toArray); exact rfl; exact kEvl; (intro w; kernel_rfl); exact rfl)
  (apply RL.alloc; exact rfl; exact rfl; intro b4)
  (apply RL.storeA; exact kEv; exact kEv; exact kTake; exact rfl; exact rfl; exact rfl)
  refine kAutoB ?_
  refine RL.bsl (nV 40 0 sE b14 2 ++ nV 40 0 sE b24 2) rfl (by exact kEvl) (fun w => by kernel_rfl) rfl (fun b28 => ?_)
  (apply RL.build (r := .agg (nV 47 0 sE b28 2).toArray); exact rfl; exact kEvl; (intro w; kernel_rfl); exact rfl)
  refine RL.bsl (nV 47 0 sE b28 2) rfl (by exact kEvl) (fun w => by kernel_rfl) rfl (fun b30 => ?_)
  (apply RL.build (r := .agg (nV 42 3 sI b30 1).toArray); exact rfl; exact kEvl; (intro w; kernel_rfl); exact rfl)
  (apply RL.alloc; exact rfl; exact rfl; intro b5)
  (apply RL.storeA; exact kEv; exact kEv; exact kTake; exact rfl; exact rfl; exact rfl)
  refine kAutoB ?_
  (apply RL.callIs; exact kEv; exact inferInstance; exact kEvl; exact (sample1_spec w0 sX); exact rfl)
  refine RL.bsl (vN sX) rfl (by exact kEvl) (fun w => by kernel_rfl) rfl (fun b34 => ?_)
  (apply RL.build (r := .agg (nV 45 1 sE b34 1).toArray); exact rfl; exact kEvl; (intro w; kernel_rfl); exact rfl)
  (apply RL.alloc; exact rfl; exact rfl; intro b6)
  (apply RL.storeA; exact kEv; exact kEv; exact kTake; exact rfl; exact rfl; exact rfl)
  refine kAutoB ?_
  refine RL.bsl [.string sX] rfl (by exact kEvl) (fun w => by kernel_rfl) rfl (fun b36 => ?_)
  refine kAutoB ?_
  refine RL.bsl [.string sA, .int .i64 3] rfl (by exact kEvl) (fun w => by kernel_rfl) rfl (fun b38 => ?_)
  refine kAutoB ?_
  refine RL.bsl (nV 42 3 sI b30 1 ++ nV 45 1 sE b34 1) rfl (by exact kEvl) (fun w => by kernel_rfl) rfl (fun b41 => ?_)
  (apply RL.build (r := .agg (nV 47 0 sE b41 2).toArray); exact rfl; exact kEvl; (intro w; kernel_rfl); exact rfl)
  (apply RL.build (r := .agg (([.string sTa, .int .i64 5, .slice (some ⟨b36, 0, none⟩) 1 1, .slice (some ⟨b38, 0, none⟩) 1 1] : List Value) ++ nV 47 0 sE b41 2).toArray); exact rfl; exact kEvl; (intro w; kernel_rfl); exact rfl)
  refine RL.bsl ([.string sTa, .int .i64 5, .slice (some ⟨b36, 0, none⟩) 1 1, .slice (some ⟨b38, 0, none⟩) 1 1] ++ nV 47 0 sE b41 2) rfl (by exact kEvl) (fun w => by kernel_rfl) rfl (fun b44 => ?_)
  (apply RL.build (r := .agg #[.slice none 0 0, .slice (some ⟨b44, 0, none⟩) 1 1]); exact rfl; exact kEvl; (intro w; kernel_rfl); exact rfl)
  (apply RL.storeA; exact kEv; exact kEv; exact kTake; exact rfl; exact rfl; exact rfl)
  refine kAutoB ?_
  refine XJ.retC rfl rfl (HasAt.pt (Takes.here _ _) atAll) rfl [cel b44 52 (([.string sTa, .int .i64 5, .slice (some ⟨b36, 0, none⟩) 1 1, .slice (some ⟨b38, 0, none⟩) 1 1] : List Value) ++ nV 47 0 sE b41 2), cel b41 50 (nV 42 3 sI b30 1 ++ nV 45 1 sE b34 1), cel b38 90 [.string sA, .int .i64 3], cel b36 9 [.string sX], cel b34 50 (vN sX), cel b30 50 (nV 47 0 sE b28 2), cel b28 50 (nV 40 0 sE b14 2 ++ nV 40 0 sE b24 2), cel b24 50 (vN sX ++ nV 6 0 sE b22 2), cel b22 50 (vN sX ++ vN sI), cel b14 50 (nV 3 0 sA b9 1 ++ vN sX), cel b9 50 (vN sI)] (by exact kGives) ⟨_, rfl, ?_⟩
  intro b w h F mm sa
  have hb44 : Base w b44 0 (([.string sTa, .int .i64 5, .slice (some ⟨b36, 0, none⟩) 1 1, .slice (some ⟨b38, 0, none⟩) 1 1] : List Value) ++ nV 47 0 sE b41 2) := cel_base (T := 52) (by exact kTake) mm sa
  have hb41 : Base w b41 0 (nV 42 3 sI b30 1 ++ nV 45 1 sE b34 1) := cel_base (T := 50) (by exact kTake) mm sa
  have hb38 : Base w b38 0 [.string sA, .int .i64 3] := cel_base (T := 90) (by exact kTake) mm sa
  have hb36 : Base w b36 0 [.string sX] := cel_base (T := 9) (by exact kTake) mm sa
  have hb34 : Base w b34 0 (vN sX) := cel_base (T := 50) (by exact kTake) mm sa
  have hb30 : Base w b30 0 (nV 47 0 sE b28 2) := cel_base (T := 50) (by exact kTake) mm sa
  have hb28 : Base w b28 0 (nV 40 0 sE b14 2 ++ nV 40 0 sE b24 2) := cel_base (T := 50) (by exact kTake) mm sa
  have hb24 : Base w b24 0 (vN sX ++ nV 6 0 sE b22 2) := cel_base (T := 50) (by exact kTake) mm sa
  have hb22 : Base w b22 0 (vN sX ++ vN sI) := cel_base (T := 50) (by exact kTake) mm sa
  have hb14 : Base w b14 0 (nV 3 0 sA b9 1 ++ vN sX) := cel_base (T := 50) (by exact kTake) mm sa
  have hb9 : Base w b9 0 (vN sI) := cel_base (T := 50) (by exact kTake) mm sa
  have n1 : NodeR w setN (nV 40 0 sE b14 2) := nodeR_two rfl rfl (nodeR_one rfl (nodeR_var w sI) hb9) (nodeR_var w sX) hb14
  have n2 : NodeR w addN (nV 40 0 sE b24 2) := nodeR_two rfl rfl (nodeR_var w sX) (nodeR_two rfl rfl (nodeR_var w sX) (nodeR_var w sI) hb22) hb24
  have n3 : NodeR w loopN (nV 42 3 sI b30 1) := nodeR_one rfl (nodeR_two rfl rfl n1 n2 hb28) hb30
  have n4 : NodeR w outN (nV 45 1 sE b34 1) := nodeR_one rfl (nodeR_var w sX) hb34
  have n5 : NodeR w (.mk 47 0 sE [loopN, outN]) (nV 47 0 sE b41 2) := nodeR_two rfl rfl n3 n4 hb41
  have hT : TaskR w ⟨sTa, 5, [sX], [⟨sA, 3⟩], .mk 47 0 sE [loopN, outN]⟩ (([.string sTa, .int .i64 5, .slice (some ⟨b36, 0, none⟩) 1 1, .slice (some ⟨b38, 0, none⟩) 1 1] : List Value) ++ nV 47 0 sE b41 2) :=
    ⟨some ⟨b36, 0, none⟩, 1, some ⟨b38, 0, none⟩, 1, nV 47 0 sE b41 2, rfl, Nat.le_refl _, Nat.le_refl _, rowsB_flat (rows := [[.string sX]]) (by simp) (by simpa using hb36), rowsB_flat (rows := [[.string sA, .int .i64 3]]) (by simp) (by simpa using hb38), n5⟩
  refine ⟨none, 0, some ⟨b44, 0, none⟩, 1, rfl, Nat.le_refl _, Nat.le_refl _, fun i r h => by simp [sampleP] at h, ⟨[(([.string sTa, .int .i64 5, .slice (some ⟨b36, 0, none⟩) 1 1, .slice (some ⟨b38, 0, none⟩) 1 1] : List Value) ++ nV 47 0 sE b41 2)], rfl, rowsB_flat (by simp [nV]) (by simpa using hb44), ?_⟩⟩
  intro i m r h1 h2
  rcases i with _ | i
  · simp [sampleP] at h1 h2; subst h1 h2; exact hT
  · simp [sampleP] at h1
end Go.Proofs.YtgmapenlgammfaaGreatDoor

/- The law's example holds. -/
namespace Go.Proofs.YtgmapenlgammfaaGreatDoor
open Go
section
attribute [local semireducible] Takes Gives Ev XJ CJ RL Spec
theorem star.skip {A B : List HProp} {h : Frag} (s : star (A ++ B) h) : star B h := by
  obtain ⟨h1, h2, l1, l2, _, _, m⟩ := s.split
  exact m.mono l2
theorem OpS.callAll {P : Program} {w0 : World} {L : Env} {M : List HProp} {d : Option Tmp} {T : TypeId} {p : String} {af : Array Edge} {g : Option (Nat × Bool)} {f : Operand} {k : FuncId} {args : Array Value} {first cap : List Value} {xs : List Operand} {vs : List Value} {ts : Array TypeId} {K : Value → List HProp → Prop}
    (hs : ∀ w h, star M h → Go.Proofs.YtgmapenlgammfaaGreatDoor.Sat w0 w h → Spec P w k args [] (Ret K noP)) (hf : Ev L f (.func (.func k) first.toArray cap.toArray)) (c : CallT P k) (hx : EvL L xs vs) (ha : args = (first ++ vs ++ cap).toArray) :
    OpS P w0 L M ⟨d, .call { callee := .value f, args := xs.toArray, argTypes := ts }, T, p, af, g⟩ (fun v N => ∃ N', K v N' ∧ N = N' ++ M) noP :=
  (OpS.callO (Spec.rebaseR hs) hf c hx ha (Takes.done M)).mono (fun v N ⟨N', ⟨N'', h1, h2⟩, h3⟩ => ⟨N'', h1, by rw [h3, h2, List.append_nil]⟩) (fun _ _ ⟨_, ⟨_, h, _⟩, _⟩ => h)
theorem RL.factS {P : Program} {w0 : World} {n : Nat} {ops : Array Oper} {Q : Exit → Act → World → Prop} {l : List Oper} {L : Env} {M : List HProp} {p : Prop} (f : ∀ w h, star M h → Go.Proofs.YtgmapenlgammfaaGreatDoor.Sat w0 w h → p) (k : p → RL P w0 n ops Q l L M) : RL P w0 n ops Q l L M :=
  fun a w h s m t => k (f w h m t) a w h s m t
theorem CJ.factS {P : Program} {w0 : World} {n : Nat} {c : Code} {Q : Exit → Act → World → Prop} {L : Env} {M : List HProp} {p : Prop} (f : ∀ w h, star M h → Go.Proofs.YtgmapenlgammfaaGreatDoor.Sat w0 w h → p) (k : p → CJ P w0 n c Q L M) : CJ P w0 n c Q L M :=
  fun a w h s m t => k (f w h m t) a w h s m t
theorem XJ.factS {w0 : World} {n : Nat} {e : Exit} {Q : Exit → Act → World → Prop} {L : Env} {M : List HProp} {p : Prop} (f : ∀ w h, star M h → Go.Proofs.YtgmapenlgammfaaGreatDoor.Sat w0 w h → p) (k : p → XJ w0 n e Q L M) : XJ w0 n e Q L M :=
  fun a w h s m t => k (f w h m t) a w h s m t
theorem RL.callAll {P : Program} {w0 : World} {n : Nat} {ops : Array Oper} {Q : Exit → Act → World → Prop} {l : List Oper} {L : Env} {M : List HProp} {d : Nat} {T : TypeId} {p : String} {af : Array Edge} {f : Operand} {k : FuncId} {args : Array Value} {first cap : List Value} {xs : List Operand} {vs : List Value} {ts : Array TypeId} {K : Value → List HProp → Prop}
    (hf : Ev L f (.func (.func k) first.toArray cap.toArray)) (c : CallT P k) (hx : EvL L xs vs) (ha : args = (first ++ vs ++ cap).toArray) (hs : ∀ w h, star M h → Go.Proofs.YtgmapenlgammfaaGreatDoor.Sat w0 w h → Spec P w k args [] (Ret K noP)) (hd : Nat.blt d n = true)
    (kk : ∀ v N, K v N → RL P w0 n ops Q l ((d, v) :: L) (N ++ M)) : RL P w0 n ops Q (⟨some d, .call { callee := .value f, args := xs.toArray, argTypes := ts }, T, p, af, none⟩ :: l) L M :=
  RL.s (OpS.callAll hs hf c hx ha) hd (by rintro _ _ ⟨N', h, rfl⟩; exact kk _ _ h) (fun _ _ h => h.elim)
end
theorem MatR.slice {w : World} {v : Value} {m : List (List Int)} (h : MatR w v m) : v.oneCell' = true := by
  obtain ⟨A, c, us, rfl, _⟩ := h
  rfl
theorem CubR.slice {w : World} {v : Value} {m : List (List (List Int))} (h : CubR w v m) : v.oneCell' = true := by
  obtain ⟨A, c, us, rfl, _⟩ := h
  rfl
section
attribute [local semireducible] HasAt Base
theorem HasAt.of {w0 : World} {M : List HProp} {b o : Nat} {vs : List Value} (f : ∀ w h, star M h → Go.Proofs.YtgmapenlgammfaaGreatDoor.Sat w0 w h → Base w b o vs) : HasAt w0 M b o vs := fun w h m s j v hv => f w h m s j v hv
end
section
attribute [local semireducible] Gives
theorem Gives.rot {X A F : List HProp} : Gives (X ++ (A ++ F)) (A ++ (X ++ F)) := fun h s => by
  refine star.perm ?_ s
  rw [← List.append_assoc, ← List.append_assoc]
  exact List.Perm.append_right F List.perm_append_comm
theorem Gives.dropMid {A B X : List HProp} : Gives (A ++ (B ++ X)) (A ++ X) := fun h s => by
  obtain ⟨h1, h2, l1, l2, d, x, y⟩ := s.split
  exact star.join l1 l2 d x y.skip
end
/-- A result's cells. -/
theorem ResR.cells {w : World} {cs : List Value} {r : JobRes} (h : ResR w cs r) : ∃ u v A c, cs = [u, v, .slice A r.out.length c, .int .i64 r.read, .int .i64 r.steps, .int .i64 r.err] ∧ u.oneCell' = true ∧ v.oneCell' = true := by
  obtain ⟨u, v, o, rfl, h1, h2, A, c, rfl, _⟩ := h
  exact ⟨u, v, A, c, rfl, h1.slice, h2.slice⟩
def memS : Mem := zeroMem sampleP
theorem sample_valid : validB sampleP = true := by kernel_rfl
theorem sample_fit : Fit sampleP := ⟨by decide, by decide, by
  intro t ht
  simp only [sampleP, List.mem_singleton] at ht
  subst ht
  decide⟩
theorem sample_job11 : jobAll sampleP 0 memS [] 11 = ⟨⟨[[[0, 0, 1]]], []⟩, [(1, 3)], 0, 11, 0⟩ := by kernel_rfl
theorem sample_job10 : (jobAll sampleP 0 memS [] 10).err = 13 ∧ (jobAll sampleP 0 memS [] 10).steps = 10 ∧ (jobAll sampleP 0 memS [] 10).out = [] := ⟨by kernel_rfl, by kernel_rfl, by kernel_rfl⟩
theorem mem32S : Mem32 memS := by
  constructor
  · intro q hq l hl x hx
    have : x = 0 := by
      simp only [memS, zeroMem, sampleP, List.map_cons, List.map_nil, List.mem_singleton] at hq
      subst hq
      simp only [zerosL, List.map_cons, List.map_nil, List.mem_singleton] at hl
      subst hl
      exact (List.mem_replicate.1 hx).2
    subst this
    exact .zero
  · intro l hl
    simp [memS, zeroMem, sampleP, zerosL] at hl
/-- What a job of the example leaves. -/
def ResF (N : List HProp) (cs : List Value) (fuel : Int) : Prop := ∀ b w h F, star (N ++ F) h → Go.Proofs.YtgmapenlgammfaaGreatDoor.Sat b w h → ResR w cs (jobAll sampleP 0 memS [] fuel)
def MemF (N : List HProp) (cs : List Value) : Prop := ∀ b w h F, star (N ++ F) h → Go.Proofs.YtgmapenlgammfaaGreatDoor.Sat b w h → MemR w cs memS
theorem awake_spec (w0 : World) (hT : Tab w0) : Spec Tryz.prog w0 13 #[] [] (Is (.bool true)) := by
  refine Spec.enter (args := []) Tryz.func13 rfl rfl rfl (fun F => ?_)
  refine kAutoB ?_
  (apply RL.callK; exact kEv; exact inferInstance; exact kEvl; exact (Takes.nil _); exact (sample_spec w0); exact rfl)
  rintro _ N1 ⟨cs, rfl, hcs⟩
  refine kAutoB ?_
  (apply RL.callAll; exact kEv; exact inferInstance; exact kEvl; exact rfl; exact (fun w h mm sa => New_spec w (hT.sat sa) sampleP cs sample_fit (hcs _ w h _ mm sa)); exact rfl)
  rintro vN N2 hN2
  obtain ⟨mcs, hmc, rfl, hmF⟩ : ∃ mcs : List Value, (∃ a b, mcs = [a, b]) ∧ vN = Value.tuple #[.agg mcs.toArray, .int .i64 0] ∧ MemF N2 mcs := by
    rcases hN2 with ⟨h, _⟩ | ⟨_, vA, vS, vs, uss, us, rfl, hL, hul, rfl⟩
    · rw [sample_valid] at h; cases h
    · exact ⟨[vA, vS], ⟨_, _, rfl⟩, rfl, fun b w h F mm sa => ⟨vA, vS, rfl, cubA_R hL (Takes.sub (Takes.app _ _)) mm sa, matM_R hul (Takes.sub (Takes.appR _ (by have := Takes.app (matM vS us memS.shared) []; rwa [List.append_nil] at this))) mm sa⟩⟩
  obtain ⟨ma, mb, rfl⟩ := hmc
  refine RL.factS (p := ma.oneCell' = true ∧ mb.oneCell' = true) (fun w h mm sa => by
    obtain ⟨u, v, e, h1, h2⟩ := hmF _ w h _ mm sa
    simp only [List.cons.injEq, and_true] at e
    obtain ⟨rfl, rfl⟩ := e
    exact ⟨h1.slice, h2.slice⟩) ?_
  rintro ⟨hma, hmb⟩
  refine kAutoB ?_
  (apply RL.alloc; exact rfl; exact rfl; intro b1)
  (apply RL.storeA; exact kEv; exact kEv; exact kTake; exact rfl; exact (by simp [hma, hmb]); exact rfl)
  refine kAutoB ?_
  refine CJ.gives (M' := cel b1 29 [ma, mb] :: (N2 ++ F)) (Gives.cons (Takes.here _ _) Gives.dropMid) ?_
  refine CJ.cut (σ := Nat × Value × Value × Option Addr × Nat × List HProp) (fun t => ResF t.2.2.2.2.2 [t.2.1, t.2.2.1, .slice t.2.2.2.1 (jobAll sampleP 0 memS [] 11).out.length t.2.2.2.2.1, .int .i64 (jobAll sampleP 0 memS [] 11).read, .int .i64 (jobAll sampleP 0 memS [] 11).steps, .int .i64 (jobAll sampleP 0 memS [] 11).err] 11 ∧ t.2.1.oneCell' = true ∧ t.2.2.1.oneCell' = true)
    (fun t => [(3, .pointer (some ⟨t.1, 0, none⟩)), (2, .int .i64 0), (1, .pointer (some ⟨b1, 0, none⟩))])
    (fun t => cel t.1 37 [t.2.1, t.2.2.1, .slice t.2.2.2.1 (jobAll sampleP 0 memS [] 11).out.length t.2.2.2.2.1, .int .i64 (jobAll sampleP 0 memS [] 11).read, .int .i64 (jobAll sampleP 0 memS [] 11).steps, .int .i64 (jobAll sampleP 0 memS [] 11).err] :: (t.2.2.2.2.2 ++ (cel b1 29 [ma, mb] :: (N2 ++ F)))) ?_ ?_
  · (refine CJ.draws mixed 4 [cel b1 _ _] (by exact kGives) (dom_of (by kernel_rfl)) ?_)
    ((first | refine kAjB 1 ?_ | refine kAjS 1 ?_))
    (refine AJ.loud2 (i := 0) (j := 3) (by kernel_rfl) (by kernel_rfl) rfl (by kernel_rfl) (by kernel_rfl) rfl rfl rfl rfl rfl rfl rfl rfl rfl rfl rfl rfl (OpS.callO (sample_spec w0) (by exact kEv) inferInstance (by exact kEvl) (by exact rfl) (Takes.nil _)) (OpS.alloc (P := Tryz.prog) (vs := [.slice none 0 0, .slice none 0 0, .slice none 0 0, .int .i64 0, .int .i64 0, .int .i64 0]) rfl) ?_ ?_ ?_ ?_)
    · rintro _ _ ⟨N3, ⟨cs3, rfl, hcs3⟩, rfl⟩
      refine ⟨by (repeat (first | exact Gives.nil _ | (apply Gives.cons; (focus (exact Takes.here _ _))) | apply Gives.drop | apply Gives.skipApp)), ?_⟩
      (refine AJ.loud2 (i := 2) (j := 3) (by kernel_rfl) (by kernel_rfl) rfl (by kernel_rfl) (by kernel_rfl) rfl rfl rfl rfl rfl rfl rfl rfl rfl rfl rfl rfl (OpS.callAll (fun w h mm sa => Job_spec w (hT.sat sa) sampleP cs3 sample_fit (hcs3 _ w h _ (mm) sa) 0 memS [ma, mb] (hmF _ w h _ (mm.skip.tail) sa) mem32S (.slice none 0 0) [] ⟨none, 0, rfl, Nat.le_refl _, fun i r h => by simp at h⟩ (by simp) (by simp) 11 (by decide)) (by exact kEv) inferInstance (by exact kEvl) (by exact rfl)) (OpS.alloc (P := Tryz.prog) (vs := [.slice none 0 0, .slice none 0 0, .slice none 0 0, .int .i64 0, .int .i64 0, .int .i64 0]) rfl) ?_ ?_ ?_ ?_)
      · rintro _ _ ⟨NJ, ⟨rcs, rfl, hrc⟩, rfl⟩
        refine ⟨by (repeat (first | exact Gives.nil _ | (apply Gives.cons; (focus (exact Takes.here _ _))) | apply Gives.drop | apply Gives.skipApp)), ?_⟩
        (refine AJ.loud1 (i := 3) (by kernel_rfl) (by kernel_rfl) rfl (by kernel_rfl) (by kernel_rfl) rfl rfl rfl rfl rfl rfl (OpS.alloc (P := Tryz.prog) (vs := [.slice none 0 0, .slice none 0 0, .slice none 0 0, .int .i64 0, .int .i64 0, .int .i64 0]) rfl) ?_ ?_)
        · rintro _ _ ⟨b3, rfl, rfl⟩
          refine ⟨by (repeat (first | exact Gives.nil _ | (apply Gives.cons; (focus (exact Takes.here _ _))) | apply Gives.drop | apply Gives.skipApp)), ?_⟩
          (refine AJ.tail (by kernel_rfl) (by kernel_rfl) rfl (by kernel_rfl) (by kernel_rfl) (by kernel_rfl) ?_)
          refine RL.factS (p := ∃ u v A c, rcs = [u, v, .slice A (jobAll sampleP 0 memS [] 11).out.length c, .int .i64 (jobAll sampleP 0 memS [] 11).read, .int .i64 (jobAll sampleP 0 memS [] 11).steps, .int .i64 (jobAll sampleP 0 memS [] 11).err] ∧ u.oneCell' = true ∧ v.oneCell' = true) (fun w h mm sa => (hrc _ w h _ (mm.tail) sa).cells) ?_
          rintro ⟨u1, u2, A1, c1, rfl, ho1, ho2⟩
          (apply RL.storeA; exact kEv; exact kEv; exact Takes.here _ _; exact rfl; exact (by simp only [List.all_cons, List.all_nil, ho1, ho2]; rfl); exact rfl)
          refine kAutoB ?_
          exact XJ.meet (b3, u1, u2, A1, c1, NJ) ⟨hrc, ho1, ho2⟩ (by exact kEsub) (Gives.cons (Takes.here _ _) Gives.dropMid)
        · rintro _ _ h; exact h.elim
      · rintro _ _ h; exact h.elim
      · rintro _ _ ⟨b3, rfl, rfl⟩
        refine ⟨by (repeat (first | exact Gives.nil _ | (apply Gives.cons; (focus (exact Takes.here _ _))) | apply Gives.drop | apply Gives.skipApp)), ?_⟩
        (refine AJ.loud1 (i := 2) (by kernel_rfl) (by kernel_rfl) rfl (by kernel_rfl) (by kernel_rfl) rfl rfl rfl rfl rfl rfl (OpS.callAll (fun w h mm sa => Job_spec w (hT.sat sa) sampleP cs3 sample_fit (hcs3 _ w h _ (mm.tail) sa) 0 memS [ma, mb] (hmF _ w h _ (mm.tail.skip.tail) sa) mem32S (.slice none 0 0) [] ⟨none, 0, rfl, Nat.le_refl _, fun i r h => by simp at h⟩ (by simp) (by simp) 11 (by decide)) (by exact kEv) inferInstance (by exact kEvl) (by exact rfl)) ?_ ?_)
        · rintro _ _ ⟨NJ, ⟨rcs, rfl, hrc⟩, rfl⟩
          refine ⟨by (repeat (first | exact Gives.nil _ | (apply Gives.cons; (focus (exact Takes.here _ _))) | apply Gives.drop | apply Gives.skipApp)), ?_⟩
          (refine AJ.tail (by kernel_rfl) (by kernel_rfl) rfl (by kernel_rfl) (by kernel_rfl) (by kernel_rfl) ?_)
          refine RL.factS (p := ∃ u v A c, rcs = [u, v, .slice A (jobAll sampleP 0 memS [] 11).out.length c, .int .i64 (jobAll sampleP 0 memS [] 11).read, .int .i64 (jobAll sampleP 0 memS [] 11).steps, .int .i64 (jobAll sampleP 0 memS [] 11).err] ∧ u.oneCell' = true ∧ v.oneCell' = true) (fun w h mm sa => (hrc _ w h _ (mm) sa).cells) ?_
          rintro ⟨u1, u2, A1, c1, rfl, ho1, ho2⟩
          (apply RL.storeA; exact kEv; exact kEv; exact Takes.appR _ (Takes.here _ _); exact rfl; exact (by simp only [List.all_cons, List.all_nil, ho1, ho2]; rfl); exact rfl)
          refine kAutoB ?_
          exact XJ.meet (b3, u1, u2, A1, c1, NJ) ⟨hrc, ho1, ho2⟩ (by exact kEsub) (Gives.cons (Takes.here _ _) Gives.dropMid)
        · rintro _ _ h; exact h.elim
      · rintro _ _ h; exact h.elim
    · rintro _ _ ⟨_, h, _⟩; exact h.elim
    · rintro _ _ ⟨b3, rfl, rfl⟩
      refine ⟨by (repeat (first | exact Gives.nil _ | (apply Gives.cons; (focus (exact Takes.here _ _))) | apply Gives.drop | apply Gives.skipApp)), ?_⟩
      (refine AJ.loud1 (i := 0) (by kernel_rfl) (by kernel_rfl) rfl (by kernel_rfl) (by kernel_rfl) rfl rfl rfl rfl rfl rfl (OpS.callO (sample_spec w0) (by exact kEv) inferInstance (by exact kEvl) (by exact rfl) (Takes.nil _)) ?_ ?_)
      · rintro _ _ ⟨N3, ⟨cs3, rfl, hcs3⟩, rfl⟩
        refine ⟨by (repeat (first | exact Gives.nil _ | (apply Gives.cons; (focus (exact Takes.here _ _))) | apply Gives.drop | apply Gives.skipApp)), ?_⟩
        (refine AJ.loud1 (i := 2) (by kernel_rfl) (by kernel_rfl) rfl (by kernel_rfl) (by kernel_rfl) rfl rfl rfl rfl rfl rfl (OpS.callAll (fun w h mm sa => Job_spec w (hT.sat sa) sampleP cs3 sample_fit (hcs3 _ w h _ (mm) sa) 0 memS [ma, mb] (hmF _ w h _ (mm.skip.tail.tail) sa) mem32S (.slice none 0 0) [] ⟨none, 0, rfl, Nat.le_refl _, fun i r h => by simp at h⟩ (by simp) (by simp) 11 (by decide)) (by exact kEv) inferInstance (by exact kEvl) (by exact rfl)) ?_ ?_)
        · rintro _ _ ⟨NJ, ⟨rcs, rfl, hrc⟩, rfl⟩
          refine ⟨by (repeat (first | exact Gives.nil _ | (apply Gives.cons; (focus (exact Takes.here _ _))) | apply Gives.drop | apply Gives.skipApp)), ?_⟩
          (refine AJ.tail (by kernel_rfl) (by kernel_rfl) rfl (by kernel_rfl) (by kernel_rfl) (by kernel_rfl) ?_)
          refine RL.factS (p := ∃ u v A c, rcs = [u, v, .slice A (jobAll sampleP 0 memS [] 11).out.length c, .int .i64 (jobAll sampleP 0 memS [] 11).read, .int .i64 (jobAll sampleP 0 memS [] 11).steps, .int .i64 (jobAll sampleP 0 memS [] 11).err] ∧ u.oneCell' = true ∧ v.oneCell' = true) (fun w h mm sa => (hrc _ w h _ (mm) sa).cells) ?_
          rintro ⟨u1, u2, A1, c1, rfl, ho1, ho2⟩
          (apply RL.storeA; exact kEv; exact kEv; exact Takes.appR _ (Takes.appR _ (Takes.here _ _)); exact rfl; exact (by simp only [List.all_cons, List.all_nil, ho1, ho2]; rfl); exact rfl)
          refine kAutoB ?_
          exact XJ.meet (b3, u1, u2, A1, c1, NJ) ⟨hrc, ho1, ho2⟩ (by exact kEsub) (Gives.cons (Takes.here _ _) Gives.dropMid)
        · rintro _ _ h; exact h.elim
      · rintro _ _ ⟨_, h, _⟩; exact h.elim
    · rintro _ _ h; exact h.elim
  rintro ⟨bR, v1, v2, A9, c9, NJ1⟩ ⟨hJ1, ho1, ho2⟩
  simp only at hJ1 ho1 ho2
  rw [sample_job11] at hJ1
  simp only [sample_job11]
  refine CJ.gives (M' := cel b1 29 [ma, mb] :: (N2 ++ ((cel bR 37 [v1, v2, .slice A9 1 c9, .int .i64 0, .int .i64 11, .int .i64 0] :: NJ1) ++ F))) (Gives.cons (Takes.there (Takes.appR _ (Takes.here _ _))) (Gives.rot (X := cel bR 37 [v1, v2, .slice A9 1 c9, .int .i64 0, .int .i64 11, .int .i64 0] :: NJ1) (A := N2) (F := F))) ?_
  generalize hY : (cel bR 37 [v1, v2, .slice A9 1 c9, .int .i64 0, .int .i64 11, .int .i64 0] :: NJ1) ++ F = Y
  clear ho1 ho2
  refine CJ.seqI (σ := Nat × Value × Value × Option Addr × Nat × List HProp) (fun t => ResF t.2.2.2.2.2 [t.2.1, t.2.2.1, .slice t.2.2.2.1 (jobAll sampleP 0 memS [] 10).out.length t.2.2.2.2.1, .int .i64 (jobAll sampleP 0 memS [] 10).read, .int .i64 (jobAll sampleP 0 memS [] 10).steps, .int .i64 (jobAll sampleP 0 memS [] 10).err] 10 ∧ t.2.1.oneCell' = true ∧ t.2.2.1.oneCell' = true)
    (fun t => [(4, .pointer (some ⟨t.1, 0, none⟩)), (3, .pointer (some ⟨bR, 0, none⟩)), (2, .int .i64 0), (1, .pointer (some ⟨b1, 0, none⟩))])
    (fun t => cel t.1 37 [t.2.1, t.2.2.1, .slice t.2.2.2.1 (jobAll sampleP 0 memS [] 10).out.length t.2.2.2.2.1, .int .i64 (jobAll sampleP 0 memS [] 10).read, .int .i64 (jobAll sampleP 0 memS [] 10).steps, .int .i64 (jobAll sampleP 0 memS [] 10).err] :: (t.2.2.2.2.2 ++ (cel b1 29 [ma, mb] :: (N2 ++ Y)))) ?_ ?_
  · (refine CJ.draws mixed 4 [cel b1 _ _] (by exact kGives) (dom_of (by kernel_rfl)) ?_)
    ((first | refine kAjB 1 ?_ | refine kAjS 1 ?_))
    (refine AJ.loud2 (i := 0) (j := 3) (by kernel_rfl) (by kernel_rfl) rfl (by kernel_rfl) (by kernel_rfl) rfl rfl rfl rfl rfl rfl rfl rfl rfl rfl rfl rfl (OpS.callO (sample_spec w0) (by exact kEv) inferInstance (by exact kEvl) (by exact rfl) (Takes.nil _)) (OpS.alloc (P := Tryz.prog) (vs := [.slice none 0 0, .slice none 0 0, .slice none 0 0, .int .i64 0, .int .i64 0, .int .i64 0]) rfl) ?_ ?_ ?_ ?_)
    · rintro _ _ ⟨N3, ⟨cs3, rfl, hcs3⟩, rfl⟩
      refine ⟨by (repeat (first | exact Gives.nil _ | (apply Gives.cons; (focus (exact Takes.here _ _))) | apply Gives.drop | apply Gives.skipApp)), ?_⟩
      (refine AJ.loud2 (i := 2) (j := 3) (by kernel_rfl) (by kernel_rfl) rfl (by kernel_rfl) (by kernel_rfl) rfl rfl rfl rfl rfl rfl rfl rfl rfl rfl rfl rfl (OpS.callAll (fun w h mm sa => Job_spec w (hT.sat sa) sampleP cs3 sample_fit (hcs3 _ w h _ (mm) sa) 0 memS [ma, mb] (hmF _ w h _ (mm.skip.tail) sa) mem32S (.slice none 0 0) [] ⟨none, 0, rfl, Nat.le_refl _, fun i r h => by simp at h⟩ (by simp) (by simp) 10 (by decide)) (by exact kEv) inferInstance (by exact kEvl) (by exact rfl)) (OpS.alloc (P := Tryz.prog) (vs := [.slice none 0 0, .slice none 0 0, .slice none 0 0, .int .i64 0, .int .i64 0, .int .i64 0]) rfl) ?_ ?_ ?_ ?_)
      · rintro _ _ ⟨NJ, ⟨rcs, rfl, hrc⟩, rfl⟩
        refine ⟨by (repeat (first | exact Gives.nil _ | (apply Gives.cons; (focus (exact Takes.here _ _))) | apply Gives.drop | apply Gives.skipApp)), ?_⟩
        (refine AJ.loud1 (i := 3) (by kernel_rfl) (by kernel_rfl) rfl (by kernel_rfl) (by kernel_rfl) rfl rfl rfl rfl rfl rfl (OpS.alloc (P := Tryz.prog) (vs := [.slice none 0 0, .slice none 0 0, .slice none 0 0, .int .i64 0, .int .i64 0, .int .i64 0]) rfl) ?_ ?_)
        · rintro _ _ ⟨b3, rfl, rfl⟩
          refine ⟨by (repeat (first | exact Gives.nil _ | (apply Gives.cons; (focus (exact Takes.here _ _))) | apply Gives.drop | apply Gives.skipApp)), ?_⟩
          (refine AJ.tail (by kernel_rfl) (by kernel_rfl) rfl (by kernel_rfl) (by kernel_rfl) (by kernel_rfl) ?_)
          refine RL.factS (p := ∃ u v A c, rcs = [u, v, .slice A (jobAll sampleP 0 memS [] 10).out.length c, .int .i64 (jobAll sampleP 0 memS [] 10).read, .int .i64 (jobAll sampleP 0 memS [] 10).steps, .int .i64 (jobAll sampleP 0 memS [] 10).err] ∧ u.oneCell' = true ∧ v.oneCell' = true) (fun w h mm sa => (hrc _ w h _ (mm.tail) sa).cells) ?_
          rintro ⟨u1, u2, A1, c1, rfl, ho1, ho2⟩
          (apply RL.storeA; exact kEv; exact kEv; exact Takes.here _ _; exact rfl; exact (by simp only [List.all_cons, List.all_nil, ho1, ho2]; rfl); exact rfl)
          refine kAutoB ?_
          exact XJ.meet (b3, u1, u2, A1, c1, NJ) ⟨hrc, ho1, ho2⟩ (by exact kEsub) (Gives.cons (Takes.here _ _) Gives.dropMid)
        · rintro _ _ h; exact h.elim
      · rintro _ _ h; exact h.elim
      · rintro _ _ ⟨b3, rfl, rfl⟩
        refine ⟨by (repeat (first | exact Gives.nil _ | (apply Gives.cons; (focus (exact Takes.here _ _))) | apply Gives.drop | apply Gives.skipApp)), ?_⟩
        (refine AJ.loud1 (i := 2) (by kernel_rfl) (by kernel_rfl) rfl (by kernel_rfl) (by kernel_rfl) rfl rfl rfl rfl rfl rfl (OpS.callAll (fun w h mm sa => Job_spec w (hT.sat sa) sampleP cs3 sample_fit (hcs3 _ w h _ (mm.tail) sa) 0 memS [ma, mb] (hmF _ w h _ (mm.tail.skip.tail) sa) mem32S (.slice none 0 0) [] ⟨none, 0, rfl, Nat.le_refl _, fun i r h => by simp at h⟩ (by simp) (by simp) 10 (by decide)) (by exact kEv) inferInstance (by exact kEvl) (by exact rfl)) ?_ ?_)
        · rintro _ _ ⟨NJ, ⟨rcs, rfl, hrc⟩, rfl⟩
          refine ⟨by (repeat (first | exact Gives.nil _ | (apply Gives.cons; (focus (exact Takes.here _ _))) | apply Gives.drop | apply Gives.skipApp)), ?_⟩
          (refine AJ.tail (by kernel_rfl) (by kernel_rfl) rfl (by kernel_rfl) (by kernel_rfl) (by kernel_rfl) ?_)
          refine RL.factS (p := ∃ u v A c, rcs = [u, v, .slice A (jobAll sampleP 0 memS [] 10).out.length c, .int .i64 (jobAll sampleP 0 memS [] 10).read, .int .i64 (jobAll sampleP 0 memS [] 10).steps, .int .i64 (jobAll sampleP 0 memS [] 10).err] ∧ u.oneCell' = true ∧ v.oneCell' = true) (fun w h mm sa => (hrc _ w h _ (mm) sa).cells) ?_
          rintro ⟨u1, u2, A1, c1, rfl, ho1, ho2⟩
          (apply RL.storeA; exact kEv; exact kEv; exact Takes.appR _ (Takes.here _ _); exact rfl; exact (by simp only [List.all_cons, List.all_nil, ho1, ho2]; rfl); exact rfl)
          refine kAutoB ?_
          exact XJ.meet (b3, u1, u2, A1, c1, NJ) ⟨hrc, ho1, ho2⟩ (by exact kEsub) (Gives.cons (Takes.here _ _) Gives.dropMid)
        · rintro _ _ h; exact h.elim
      · rintro _ _ h; exact h.elim
    · rintro _ _ ⟨_, h, _⟩; exact h.elim
    · rintro _ _ ⟨b3, rfl, rfl⟩
      refine ⟨by (repeat (first | exact Gives.nil _ | (apply Gives.cons; (focus (exact Takes.here _ _))) | apply Gives.drop | apply Gives.skipApp)), ?_⟩
      (refine AJ.loud1 (i := 0) (by kernel_rfl) (by kernel_rfl) rfl (by kernel_rfl) (by kernel_rfl) rfl rfl rfl rfl rfl rfl (OpS.callO (sample_spec w0) (by exact kEv) inferInstance (by exact kEvl) (by exact rfl) (Takes.nil _)) ?_ ?_)
      · rintro _ _ ⟨N3, ⟨cs3, rfl, hcs3⟩, rfl⟩
        refine ⟨by (repeat (first | exact Gives.nil _ | (apply Gives.cons; (focus (exact Takes.here _ _))) | apply Gives.drop | apply Gives.skipApp)), ?_⟩
        (refine AJ.loud1 (i := 2) (by kernel_rfl) (by kernel_rfl) rfl (by kernel_rfl) (by kernel_rfl) rfl rfl rfl rfl rfl rfl (OpS.callAll (fun w h mm sa => Job_spec w (hT.sat sa) sampleP cs3 sample_fit (hcs3 _ w h _ (mm) sa) 0 memS [ma, mb] (hmF _ w h _ (mm.skip.tail.tail) sa) mem32S (.slice none 0 0) [] ⟨none, 0, rfl, Nat.le_refl _, fun i r h => by simp at h⟩ (by simp) (by simp) 10 (by decide)) (by exact kEv) inferInstance (by exact kEvl) (by exact rfl)) ?_ ?_)
        · rintro _ _ ⟨NJ, ⟨rcs, rfl, hrc⟩, rfl⟩
          refine ⟨by (repeat (first | exact Gives.nil _ | (apply Gives.cons; (focus (exact Takes.here _ _))) | apply Gives.drop | apply Gives.skipApp)), ?_⟩
          (refine AJ.tail (by kernel_rfl) (by kernel_rfl) rfl (by kernel_rfl) (by kernel_rfl) (by kernel_rfl) ?_)
          refine RL.factS (p := ∃ u v A c, rcs = [u, v, .slice A (jobAll sampleP 0 memS [] 10).out.length c, .int .i64 (jobAll sampleP 0 memS [] 10).read, .int .i64 (jobAll sampleP 0 memS [] 10).steps, .int .i64 (jobAll sampleP 0 memS [] 10).err] ∧ u.oneCell' = true ∧ v.oneCell' = true) (fun w h mm sa => (hrc _ w h _ (mm) sa).cells) ?_
          rintro ⟨u1, u2, A1, c1, rfl, ho1, ho2⟩
          (apply RL.storeA; exact kEv; exact kEv; exact Takes.appR _ (Takes.appR _ (Takes.here _ _)); exact rfl; exact (by simp only [List.all_cons, List.all_nil, ho1, ho2]; rfl); exact rfl)
          refine kAutoB ?_
          exact XJ.meet (b3, u1, u2, A1, c1, NJ) ⟨hrc, ho1, ho2⟩ (by exact kEsub) (Gives.cons (Takes.here _ _) Gives.dropMid)
        · rintro _ _ h; exact h.elim
      · rintro _ _ ⟨_, h, _⟩; exact h.elim
    · rintro _ _ h; exact h.elim
  rintro ⟨bS, w1, w2, A8, c8, NJ2⟩ ⟨hJ2, ho1, ho2⟩
  simp only at hJ2 ho1 ho2
  obtain ⟨e1, e2, e3⟩ := sample_job10
  simp only [e1, e2, e3]
  subst hY
  refine CJ.gives (M' := cel bS 37 [w1, w2, .slice A8 0 c8, .int .i64 (jobAll sampleP 0 memS [] 10).read, .int .i64 10, .int .i64 13] :: cel bR 37 [v1, v2, .slice A9 1 c9, .int .i64 0, .int .i64 11, .int .i64 0] :: (NJ1 ++ F)) (Gives.cons (Takes.here _ _) (Gives.skipApp (Gives.drop (Gives.skipApp (Gives.refl _))))) ?_
  refine CJ.factS (p := ∃ b o, A9 = some ⟨b, o, none⟩) (fun w h mm sa => by
    obtain ⟨_, _, _, e, _, _, A, c, rfl, _, hr⟩ := hJ1 _ w h _ (mm.tail.tail) sa
    simp only [List.cons.injEq, Value.slice.injEq, and_true] at e
    obtain ⟨_, _, ⟨rfl, _⟩, _⟩ := e
    rw [sample_job11] at hr
    obtain ⟨b, o, e, _⟩ := hr.at_ 0 (by simp)
    exact ⟨b, o, e⟩) ?_
  rintro ⟨bo, oo, rfl⟩
  have hout : ∀ X, HasAt w0 (cel bS 37 X :: cel bR 37 [v1, v2, .slice (some ⟨bo, oo, none⟩) 1 c9, .int .i64 0, .int .i64 11, .int .i64 0] :: (NJ1 ++ F)) bo oo [.int .i64 1, .int .i32 3] := fun X => HasAt.of (fun w h mm sa => by
    obtain ⟨_, _, _, e, _, _, A, c, rfl, _, hr⟩ := hJ1 _ w h _ (mm.tail.tail) sa
    simp only [List.cons.injEq, Value.slice.injEq, and_true] at e
    obtain ⟨_, _, ⟨rfl, _⟩, _⟩ := e
    rw [sample_job11] at hr
    obtain ⟨b, o, e, _, hb⟩ := hr.at_ 0 (by simp)
    simp only [Option.some.injEq, Addr.mk.injEq, and_true] at e
    obtain ⟨rfl, rfl⟩ := e
    simpa [intV] using hb)
  refine kAutoB ?_
  apply RL.pur; (exact OpP.indexAddrC 0 (by exact kEv) rfl (by decide) oo (by omega)); exact rfl
  refine kAutoB ?_
  apply RL.pur; (apply OpP.loadA; exact kEv; exact hout _; exact rfl); exact rfl
  refine kAutoB ?_
  apply RL.pur; (apply OpP.eql2; kernel_rfl; kernel_rfl; kernel_rfl; kernel_rfl; exact kEv; exact kEv); exact rfl
  refine kAutoB ?_
  exact XJ.ret1 rfl rfl [] (Gives.drop (Gives.drop (Gives.skipApp (Gives.refl _)))) ⟨rfl, rfl⟩
end Go.Proofs.YtgmapenlgammfaaGreatDoor
