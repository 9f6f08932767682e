/- Statements: their shapes; the execution of a block. -/
import Derived.Test.YtgmapenlgammfaaGreatDoorStore
set_option linter.all false
namespace Go.Proofs.YtgmapenlgammfaaGreatDoor
open Go

theorem kidsB_three {kids : List Node} {c d e : Int} (h : kidsB kids [c, d, e] = true) : ∃ a b f, kids = [a, b, f] ∧ isB a c = true ∧ isB b d = true ∧ isB f e = true := by
  match kids, h with
  | [], h => simp [kidsB] at h
  | [a], h => simp [kidsB] at h
  | [a, b], h => simp [kidsB] at h
  | [a, b, f], h => simp [kidsB] at h; exact ⟨a, b, f, rfl, h.1, h.2.1, h.2.2⟩
  | a :: b :: d :: e :: r, h => simp [kidsB] at h
theorem form_of {k n : Int} {s : ByteArray} {kids : List Node} {w : Int} (h47 : k ≠ 47) (h : isB (.mk k n s kids) w = true) : ∃ f, formOf k = some f ∧ ¬ bitAnd .u8 f.is w = 0 ∧ f.low ≤ n ∧ n ≤ f.high ∧ kidsB kids f.kids = true := by
  rw [isB, if_neg h47] at h
  cases hf : formOf k with
  | none => rw [hf] at h; cases h
  | some f =>
    rw [hf] at h
    simp only [Bool.and_eq_true, Bool.not_eq_true', decide_eq_false_iff_not, Int.not_lt, beq_eq_false_iff_ne] at h
    obtain ⟨⟨⟨⟨⟨h1, h2⟩, h3⟩, -⟩, -⟩, h5⟩ := h
    exact ⟨f, rfl, h1, h2, h3, h5⟩
theorem form_is {k : Int} {f : Form} (hf : formOf k = some f) : (f.is = 4 ∧ 40 ≤ k ∧ k ≤ 46) ∨ f.is = 1 ∨ f.is = 3 ∧ (k = 2 ∨ k = 3) := by
  unfold formOf at hf
  by_cases e : k = 46
  · rw [if_pos e] at hf; injection hf with hf; subst hf; simp [e]
  rw [if_neg e] at hf
  by_cases e : k = 45
  · rw [if_pos e] at hf; injection hf with hf; subst hf; simp [e]
  rw [if_neg e] at hf
  by_cases e : k = 44
  · rw [if_pos e] at hf; injection hf with hf; subst hf; simp [e]
  rw [if_neg e] at hf
  by_cases e : k = 43
  · rw [if_pos e] at hf; injection hf with hf; subst hf; simp [e]
  rw [if_neg e] at hf
  by_cases e : k = 42
  · rw [if_pos e] at hf; injection hf with hf; subst hf; simp [e]
  rw [if_neg e] at hf
  by_cases e : k = 41
  · rw [if_pos e] at hf; injection hf with hf; subst hf; simp [e]
  rw [if_neg e] at hf
  by_cases e : k = 40
  · rw [if_pos e] at hf; injection hf with hf; subst hf; simp [e]
  rw [if_neg e] at hf
  by_cases e : k = 5
  · rw [if_pos e] at hf; injection hf with hf; subst hf; simp [e]
  rw [if_neg e] at hf
  by_cases e : k = 4
  · rw [if_pos e] at hf; injection hf with hf; subst hf; simp [e]
  rw [if_neg e] at hf
  by_cases e : k = 3
  · rw [if_pos e] at hf; injection hf with hf; subst hf; simp [e]
  rw [if_neg e] at hf
  by_cases e : k = 2
  · rw [if_pos e] at hf; injection hf with hf; subst hf; simp [e]
  rw [if_neg e] at hf
  by_cases e : k = 1
  · rw [if_pos e] at hf; injection hf with hf; subst hf; simp [e]
  rw [if_neg e] at hf
  by_cases e : 6 ≤ k ∧ k ≤ 23
  · rw [if_pos e] at hf; injection hf with hf; subst hf; simp
  · rw [if_neg e] at hf; cases hf
/-- The shapes of a place. -/
theorem place_cases {p : Node} (h : isB p 2 = true) : p.kind = 2 ∨ p.kind = 3 ∧ ∃ a, p.kids = [a] ∧ isB a 1 = true := by
  obtain ⟨k, n, s, kids⟩ := p
  simp only [Node.kind, Node.kids]
  by_cases h47 : k = 47
  · subst h47
    rw [isB, if_pos rfl, show (bitAnd .u8 2 8 != 0) = false by decide] at h
    simp at h
  obtain ⟨f, hf, h1, -, -, h5⟩ := form_of h47 h
  by_cases e : k = 2
  · exact .inl e
  by_cases e3 : k = 3
  · subst e3
    simp [formOf] at hf
    subst hf
    exact .inr ⟨rfl, kidsB_one h5⟩
  · exfalso
    apply h1
    rcases form_is hf with ⟨h, h', h''⟩ | h | ⟨h, h'⟩
    · rw [h]; decide
    · rw [h]; decide
    · omega
/-- The shapes of a statement. -/
inductive Stmt (num : Int) : Int → List Node → Prop
  | assign (p e : Node) : isB p 2 = true → isB e 1 = true → Stmt num 40 [p, e]
  | cond (c a b : Node) : isB c 1 = true → isB a 8 = true → isB b 8 = true → Stmt num 41 [c, a, b]
  | count (b : Node) : isB b 8 = true → 1 ≤ num → num ≤ 1000 → Stmt num 42 [b]
  | while_ (c b : Node) : isB c 1 = true → isB b 8 = true → 1 ≤ num → num ≤ 1000 → Stmt num 43 [c, b]
  | inp (p : Node) : isB p 2 = true → Stmt num 44 [p]
  | out (e : Node) : isB e 1 = true → Stmt num 45 [e]
  | lock (b : Node) : isB b 8 = true → Stmt num 46 [b]
theorem stmt_cases {k n : Int} {s : ByteArray} {kids : List Node} (h : isB (.mk k n s kids) 4 = true) : Stmt n k kids := by
  by_cases h47 : k = 47
  · subst h47
    rw [isB, if_pos rfl, show (bitAnd .u8 4 8 != 0) = false by decide] at h
    simp at h
  obtain ⟨f, hf, h1, h2, h3, h5⟩ := form_of h47 h
  have hf0 := hf
  unfold formOf at hf
  by_cases e : k = 46
  · subst e; simp at hf; subst hf; obtain ⟨b, rfl, hb⟩ := kidsB_one h5; exact .lock b hb
  by_cases e : k = 45
  · subst e; simp at hf; subst hf; obtain ⟨b, rfl, hb⟩ := kidsB_one h5; exact .out b hb
  by_cases e : k = 44
  · subst e; simp at hf; subst hf; obtain ⟨b, rfl, hb⟩ := kidsB_one h5; exact .inp b hb
  by_cases e : k = 43
  · subst e; simp at hf; subst hf; obtain ⟨a, b, rfl, ha, hb⟩ := kidsB_two h5; exact .while_ a b ha hb h2 h3
  by_cases e : k = 42
  · subst e; simp at hf; subst hf; obtain ⟨b, rfl, hb⟩ := kidsB_one h5; exact .count b hb h2 h3
  by_cases e : k = 41
  · subst e; simp at hf; subst hf; obtain ⟨a, b, c, rfl, ha, hb, hc⟩ := kidsB_three h5; exact .cond a b c ha hb hc
  by_cases e : k = 40
  · subst e; simp at hf; subst hf; obtain ⟨a, b, rfl, ha, hb⟩ := kidsB_two h5; exact .assign a b ha hb
  · exfalso
    apply h1
    rcases form_is hf with ⟨h, h', h''⟩ | h | ⟨h, h'⟩
    · omega
    · rw [h]; decide
    · rcases h' with h' | h' <;> subst h' <;> simp [formOf] at hf0 <;> (subst hf0; exact absurd h1 (by decide))
theorem block_cases {k n : Int} {s : ByteArray} {kids : List Node} (h : isB (.mk k n s kids) 8 = true) : k = 47 ∧ ∀ m ∈ kids, isB m 4 = true := by
  by_cases h47 : k = 47
  · subst h47
    rw [isB, if_pos rfl] at h
    simp only [Bool.and_eq_true, stmtsB_all, List.all_eq_true] at h
    exact ⟨rfl, h.2⟩
  · exfalso
    obtain ⟨f, hf, h1, -⟩ := form_of h47 h
    apply h1
    rcases form_is hf with ⟨h, h', h''⟩ | h | ⟨h, h'⟩
    · rw [h]; decide
    · rw [h]; decide
    · rw [h]; decide
/-- A node's execution by the machine is what execN says. -/
def ExecOK (w0 : World) (J : JP) (E : JE) (lens : List Nat) (f : FuncId) (n : Node) : Prop :=
  ∀ s A c cs, OKJ E lens s → NodeR w0 n cs → Spec Tryz.prog w0 f #[.pointer (some ⟨J.bm, 0, none⟩), .agg cs.toArray] (jobM J E s A c) (JRes J E (execN E n s))
theorem block_spec (w0 : World) {J : JP} {E : JE} {lens : List Nat} (k : JobF w0 J E lens) (n : Node) (hn : n.size < 4611686018427387904) (hB : isB n 8 = true) (hk : ∀ m ∈ n.kids, ExecOK w0 J E lens 83 m) :
    ExecOK w0 J E lens 50 n := by
  intro s A c cs o hR
  obtain ⟨B, cp, rfl, hcap, hN⟩ := hR.kids
  have hkl := n.kids_le
  obtain ⟨kd, num, nm, kids⟩ := n
  simp only [Node.kind, Node.num, Node.name, Node.kids] at *
  obtain ⟨rfl, -⟩ := block_cases hB
  have e : execN E (.mk 47 num nm kids) s = seqJ (execL E kids) s := by rw [execN, nodeJ, if_pos rfl]
  rw [e]
  refine Spec.enter (args := [_, _]) Tryz.func50 rfl rfl rfl (fun F => ?_)
  refine kAutoB ?_
  (apply RL.boxR; exact kEv; exact rfl; intro b3)
  refine kAutoB ?_
  refine CJ.loop (σ := Nat × JS × Option Addr × Nat) (fun t => t.1 ≤ kids.length ∧ OKJ E lens t.2.1 ∧ seqJ (execL E kids) s = seqJ (execL E (kids.drop t.1)) t.2.1)
    (fun t => [(9, .int .i64 (t.1 : Int)), (7, .slice B kids.length cp), (8, .int .i64 kids.length), (0, .pointer (some ⟨J.bm, 0, none⟩))])
    (fun t => jobM J E t.2.1 t.2.2.1 t.2.2.2 ++ F) (fun t => kids.length - t.1) (0, s, A, c) ⟨Nat.zero_le _, o, rfl⟩ (by exact kEsub) (Gives.drop (Gives.refl _)) ?_
  rintro ⟨i, t, A1, c1⟩ ⟨hi, ho, he⟩
  simp only at hi ho he
  refine kAutoB ?_
  cases hlt : decide ((i : Int) < (kids.length : Int))
  · have hge : i = kids.length := by have := of_decide_eq_false hlt; omega
    refine kAutoB ?_
    rw [he, hge, List.drop_length]
    exact XJ.end0 rfl (jobM J E t A1 c1) (Gives.refl _) ⟨rfl, rfl, A1, c1, rfl⟩
  · have hlt' : i < kids.length := by have := of_decide_eq_true hlt; omega
    obtain ⟨b, q, r, e1, hb, hrl, hr⟩ := hN.at_ i hlt'
    subst e1
    have hd : kids.drop i = kids[i] :: kids.drop (i + 1) := List.drop_eq_getElem_cons hlt'
    obtain ⟨A0, cap0, hr0, _⟩ := hr.kids
    rw [hd, execL, seqJ] at he
    refine kAutoB ?_
    apply RL.pur; (apply OpP.indexAddr; exact kEv; exact kEv; exact hlt'); exact rfl
    apply RL.pur; (apply OpP.loadA; exact kEv; exact HasAt.base hb; exact hrl); exact rfl
    (apply RL.alloc; exact rfl; exact rfl; intro b5)
    refine kAutoB ?_
    (apply RL.storeW; exact kEv; exact kEv; exact Takes.here _ _; exact hrl; exact rfl; exact (by rw [hr0]; rfl))
    refine kAutoB ?_
    (apply RL.callKP; exact kEv; exact inferInstance; exact kEvl; exact Takes.there1 (Takes.app _ _); exact hk _ (List.getElem_mem hlt') t A1 c1 r ho hr; exact rfl)
    · rintro _ _ ⟨h1, rfl, A2, c2, rfl⟩
      refine kAutoB ?_
      rw [i64_succ i (by omega)]
      rw [bindJ_none h1] at he
      exact XJ.round (i + 1, _, A2, c2) ⟨by simp only; omega, execN_ok _ k.inp ho, he⟩ (by simp only; omega) (by exact kEsub) (Takes.drop2 _ _ _)
    · rintro p _ ⟨x, h1, rfl, A2, c2, rfl⟩
      refine kAutoB ?_
      rw [bindJ_some h1] at he
      rw [he]
      exact XJ.panics (jobM J E (execN E kids[i] t).1 A2 c2) (Takes.drop2 _ _ _) ⟨x, rfl, rfl, A2, c2, rfl⟩
end Go.Proofs.YtgmapenlgammfaaGreatDoor
