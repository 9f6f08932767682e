/- The law's bounds: count, Big, Great, small. -/
import Derived.Test.YtgmapenlgammfaaGreatDoorSame
set_option linter.all false
namespace Go.Proofs.YtgmapenlgammfaaGreatDoor
open Go
mutual
def countI : Node → Int → Int
  | .mk _ _ _ kids, d => if d < 1 then 1000 else countK kids (d - 1) 1
def countK : List Node → Int → Int → Int
  | [], _, s => s
  | n :: r, d, s => if s + countI n d ≥ 1000 then 1000 else countK r d (s + countI n d)
end
theorem countI_range (n : Node) : ∀ d, 1 ≤ countI n d ∧ countI n d ≤ 1000 := by
  induction n using Node.rec (motive_2 := fun l => ∀ d s, 1 ≤ s → s < 1000 → 1 ≤ countK l d s ∧ countK l d s ≤ 1000) with
  | mk k num s kids ih =>
    intro d
    rw [countI]
    split
    · omega
    · exact ih (d - 1) 1 (by omega) (by omega)
  | nil => rename_i d s h1 h2; rw [countK]; omega
  | cons n r h1 h2 =>
    rename_i d s hs1 hs2
    rw [countK]
    have := h1 d
    split
    · omega
    · exact h2 d _ (by omega) (by omega)
theorem countI_size (n : Node) : ∀ d, countI n d < 1000 → (n.size : Int) = countI n d := by
  induction n using Node.rec (motive_2 := fun l => ∀ d s, 1 ≤ s → countK l d s < 1000 → (Node.sizeAll l : Int) + s = countK l d s) with
  | mk k num s kids ih =>
    intro d h
    rw [countI] at h ⊢
    split at h
    · omega
    · rename_i h1
      rw [if_neg h1]
      have := ih (d - 1) 1 (by decide) h
      rw [Node.size]
      omega
  | nil => rename_i d s _ h; rw [countK] at h ⊢; simp [Node.sizeAll]
  | cons n r h1 h2 =>
    rename_i d s hs h
    rw [countK] at h ⊢
    split at h
    · omega
    · rename_i h3
      rw [if_neg h3]
      have hp := (countI_range n d).1
      have e2 := h2 d _ (by omega) h
      have := h1 d (by omega)
      rw [Node.sizeAll]
      omega
theorem count_spec (w0 : World) : ∀ (m : Nat) (n : Node), n.size ≤ m → ∀ (cs : List Value) (d : Int), NodeR w0 n cs → d ≤ 1000 → Spec Tryz.prog w0 68 #[.agg cs.toArray, .int .i64 d] [] (Is (.int .i64 (countI n d))) := by
  intro m
  induction m with
  | zero => intro n h; have := n.size_pos; omega
  | succ m ih =>
    intro n hm cs d hR hd
    obtain ⟨A, cap, rfl, hcap, hN⟩ := hR.kids
    have hks : ∀ k ∈ n.kids, k.size ≤ m := fun k hk => by have := Node.size_kid hk; omega
    obtain ⟨kd, num, nm, kids⟩ := n
    simp only [Node.kind, Node.num, Node.name, Node.kids] at *
    refine Spec.enter (args := [_, _]) Tryz.func68 rfl rfl rfl (fun F => ?_)
    refine kAutoB ?_
    (apply RL.boxR; exact kEv; exact rfl; intro b2)
    refine kAutoB ?_
    cases h1 : decide (d < 1)
    case true =>
      refine kAutoB ?_
      refine XJ.ret1 rfl rfl [] (by exact kGives) ⟨?_, rfl⟩
      rw [countI, if_pos (of_decide_eq_true h1)]
    have h1' := of_decide_eq_false h1
    rw [countI, if_neg h1']
    refine kAutoB ?_
    refine CJ.loop (σ := Nat × Int) (fun t => t.1 ≤ kids.length ∧ (t.1 : Int) + 1 ≤ t.2 ∧ t.2 < 1000 ∧ countK kids (d - 1) 1 = countK (kids.drop t.1) (d - 1) t.2) (fun t => [(13, .int .i64 (t.1 : Int)), (5, .int .i64 t.2), (11, .slice A kids.length cap), (12, .int .i64 kids.length), (1, .int .i64 d)]) (fun _ => F) (fun t => kids.length - t.1) (0, 1) ⟨Nat.zero_le _, by decide, by decide, rfl⟩ (by exact kEsub) (by exact kGives) ?_
    rintro ⟨i, s⟩ ⟨hi, hs1, hs2, he⟩
    simp only at hi hs1 hs2 he
    refine kAutoB ?_
    cases hlt : decide ((i : Int) < (kids.length : Int))
    · have hge : i = kids.length := by have := of_decide_eq_false hlt; omega
      refine kAutoB ?_
      refine XJ.ret1 rfl rfl [] (by exact kGives) ⟨?_, rfl⟩
      rw [he, hge, List.drop_length, countK]
    have hlt' : i < kids.length := by have := of_decide_eq_true hlt; omega
    obtain ⟨b, o, r, e1, hb, hrl, hr⟩ := hN.at_ i hlt'
    subst e1
    obtain ⟨A0, cap0, hr0, _⟩ := hr.kids
    have hd1 : kids.drop i = kids[i] :: kids.drop (i + 1) := List.drop_eq_getElem_cons hlt'
    rw [hd1, countK] at he
    have hrec := ih kids[i] (hks _ (List.getElem_mem hlt')) r (d - 1) hr (by omega)
    have hrg := countI_range kids[i] (d - 1)
    have hw1 : IntKind.i64.wrap (d - 1) = d - 1 := by simp only [IntKind.wrap, IntKind.signed, IntKind.bits]; simp; omega
    have hw2 : IntKind.i64.wrap (s + countI kids[i] (d - 1)) = s + countI kids[i] (d - 1) := by simp only [IntKind.wrap, IntKind.signed, IntKind.bits]; simp; omega
    refine kAutoB ?_
    apply RL.pur; (apply OpP.indexAddr; exact kEv; exact kEv; exact hlt'); exact rfl
    apply RL.pur; (apply OpP.loadA; exact kEv; exact HasAt.base hb; exact hrl); exact rfl
    (apply RL.alloc; exact rfl; exact rfl; intro b7)
    refine kAutoB ?_
    (apply RL.storeW; exact kEv; exact kEv; exact kTake; exact hrl; exact rfl; exact (by rw [hr0]; rfl))
    refine kAutoB ?_
    rw [hw1]
    (apply RL.callIs; exact kEv; exact inferInstance; exact kEvl; exact hrec; exact rfl)
    refine kAutoB ?_
    rw [hw2]
    cases hg : decide (s + countI kids[i] (d - 1) ≥ 1000)
    · have hg' := of_decide_eq_false hg
      rw [if_neg hg'] at he
      refine kAutoB ?_
      rw [i64_up i (by omega)]
      exact XJ.round (i + 1, s + countI kids[i] (d - 1)) ⟨by simp only; omega, by simp only; omega, by simp only; omega, he⟩ (by simp only; omega) (by exact kEsub) (by exact kGives)
    · have hg' := of_decide_eq_true hg
      rw [if_pos hg'] at he
      refine kAutoB ?_
      refine XJ.ret1 rfl rfl [] (by exact kGives) ⟨?_, rfl⟩
      rw [he]
def bigB (n : Node) : Bool := decide (countI n 40 > 500)
def bI (b : Bool) : Int := if b then 1 else 0
theorem Big_spec (w0 : World) (n : Node) (cs : List Value) (hR : NodeR w0 n cs) : Spec Tryz.prog w0 35 #[.agg cs.toArray] [] (Is (.int .i64 (bI (bigB n)))) := by
  have hc := count_spec w0 n.size n (Nat.le_refl _) cs 40 hR (by decide)
  obtain ⟨A, cap, rfl, hcap, hN⟩ := hR.kids
  refine Spec.enter (args := [_]) Tryz.func35 rfl rfl rfl (fun F => ?_)
  refine kAutoB ?_
  (apply RL.boxR; exact kEv; exact rfl; intro b1)
  refine kAutoB ?_
  (apply RL.callIs; exact kEv; exact inferInstance; exact kEvl; exact hc; exact rfl)
  refine kAutoB ?_
  cases h : decide (countI n 40 > 500)
  · refine kAutoB ?_
    refine XJ.ret1 rfl rfl [] (by exact kGives) ⟨?_, rfl⟩
    rw [bigB, h]; rfl
  · refine kAutoB ?_
    refine XJ.ret1 rfl rfl [] (by exact kGives) ⟨?_, rfl⟩
    rw [bigB, h]; rfl
theorem bigB_size {n : Node} (h : bigB n = false) : n.size ≤ 500 := by
  unfold bigB at h
  have h' := of_decide_eq_false h
  have := countI_size n 40 (by omega)
  omega
def greatT (t : Task) : Bool := decide ((t.vars.length : Int) > 20) || decide ((t.arrays.length : Int) > 10) || bigB t.body
def greatP (p : Prg) : Bool := decide ((p.shared.length : Int) > 10) || decide ((p.tasks.length : Int) > 10) || p.tasks.any greatT
theorem any_drop {α : Type} {l : List α} {f : α → Bool} {i : Nat} (h : i < l.length) : (l.drop i).any f = (f l[i] || (l.drop (i + 1)).any f) := by
  rw [List.drop_eq_getElem_cons h, List.any_cons]
theorem Great12_spec (w0 : World) (p : Prg) (cs : List Value) (hR : PrgR w0 p cs) : Spec Tryz.prog w0 45 #[.agg cs.toArray] [] (Is (.int .i64 (bI (greatP p)))) := by
  obtain ⟨A1, c1, A2, c2, rfl, h1, h2, h3, h4⟩ := hR.ex
  refine Spec.enter (args := [_]) Tryz.func45 rfl rfl rfl (fun F => ?_)
  refine kAutoB ?_
  (apply RL.boxR; exact kEv; exact rfl; intro b1)
  refine kAutoB ?_
  cases e1 : decide ((p.shared.length : Int) > 10)
  case true =>
    refine kAutoB ?_
    refine XJ.ret1 rfl rfl [] (by exact kGives) ⟨?_, rfl⟩
    rw [greatP, e1]; rfl
  refine kAutoB ?_
  cases e2 : decide ((p.tasks.length : Int) > 10)
  case true =>
    refine kAutoB ?_
    refine XJ.ret1 rfl rfl [] (by exact kGives) ⟨?_, rfl⟩
    rw [greatP, e1, e2]; rfl
  have e2' := of_decide_eq_false e2
  refine kAutoB ?_
  refine CJ.loop (σ := Nat) (fun i => i ≤ p.tasks.length ∧ p.tasks.any greatT = (p.tasks.drop i).any greatT) (fun i => [(18, .int .i64 (i : Int)), (17, .int .i64 p.tasks.length), (16, .slice A2 p.tasks.length c2)]) (fun _ => F) (fun i => p.tasks.length - i) 0 ⟨Nat.zero_le _, rfl⟩ (by exact kEsub) (by exact kGives) ?_
  rintro i ⟨hi, he⟩
  refine kAutoB ?_
  cases hlt : decide ((i : Int) < (p.tasks.length : Int))
  · have hge : i = p.tasks.length := by have := of_decide_eq_false hlt; omega
    refine kAutoB ?_
    refine XJ.ret1 rfl rfl [] (by exact kGives) ⟨?_, rfl⟩
    rw [greatP, e1, e2, he, hge, List.drop_length]; rfl
  have hlt' : i < p.tasks.length := by have := of_decide_eq_true hlt; omega
  rw [any_drop hlt'] at he
  obtain ⟨b, o, r, rfl, hb, hrl, hr⟩ := h4.at_ i hlt'
  obtain ⟨A5, c5, A6, c6, bs, rfl, g1, g2, g3, g4, g5⟩ := hr.ex
  have hB := Big_spec w0 p.tasks[i].body bs g5
  obtain ⟨A7, c7, rfl, _⟩ := g5.kids
  refine kAutoB ?_
  apply RL.pur; (apply OpP.indexAddr; exact kEv; exact kEv; exact hlt'); exact rfl
  apply RL.pur; (apply OpP.loadA; exact kEv; exact HasAt.base hb; exact hrl); exact rfl
  (apply RL.alloc; exact rfl; exact rfl; intro b4)
  refine kAutoB ?_
  (apply RL.storeW; exact kEv; exact kEv; exact kTake; exact rfl; exact rfl; exact rfl)
  refine kAutoB ?_
  have hyes : greatT p.tasks[i] = true → greatP p = true := fun h => by rw [greatP, he, h]; simp
  cases f1 : decide ((p.tasks[i].vars.length : Int) > 20)
  case true =>
    refine kAutoB ?_
    refine XJ.ret1 rfl rfl [] (by exact kGives) ⟨?_, rfl⟩
    rw [hyes (by rw [greatT, f1]; rfl)]; rfl
  refine kAutoB ?_
  cases f2 : decide ((p.tasks[i].arrays.length : Int) > 10)
  case true =>
    refine kAutoB ?_
    refine XJ.ret1 rfl rfl [] (by exact kGives) ⟨?_, rfl⟩
    rw [hyes (by rw [greatT, f1, f2]; rfl)]; rfl
  refine kAutoB ?_
  (apply RL.callIs; exact kEv; exact inferInstance; exact kEvl; exact hB; exact rfl)
  cases f3 : bigB p.tasks[i].body
  case true =>
    refine kAutoB ?_
    refine XJ.ret1 rfl rfl [] (by exact kGives) ⟨?_, rfl⟩
    rw [hyes (by rw [greatT, f1, f2, f3]; rfl)]; rfl
  have hno : greatT p.tasks[i] = false := by rw [greatT, f1, f2, f3]; rfl
  rw [hno, Bool.false_or] at he
  refine kAutoB ?_
  rw [i64_up i (by omega)]
  exact XJ.round (i + 1) ⟨by omega, he⟩ (by omega) (by exact kEsub) (by exact kGives)
def smallB (m : List (List Int)) : Bool := m.all (fun l => !decide ((l.length : Int) > 70)) && decide ((m.length : Int) ≤ 10)
theorem all_drop {α : Type} {l : List α} {f : α → Bool} {i : Nat} (h : i < l.length) : (l.drop i).all f = (f l[i] && (l.drop (i + 1)).all f) := by
  rw [List.drop_eq_getElem_cons h, List.all_cons]
theorem small_spec (w0 : World) (u : Value) (m : List (List Int)) (hm : MatR w0 u m) (hl : m.length ≤ maxLen) : Spec Tryz.prog w0 46 #[u] [] (Is (.bool (smallB m))) := by
  obtain ⟨A, c, rfl, hc, ha⟩ := hm.at_
  simp only [maxLen] at hl
  refine Spec.enter (args := [_]) Tryz.func46 rfl rfl rfl (fun F => ?_)
  refine kAutoB ?_
  refine CJ.loop (σ := Nat) (fun i => i ≤ m.length ∧ m.all (fun l => !decide ((l.length : Int) > 70)) = (m.drop i).all (fun l => !decide ((l.length : Int) > 70))) (fun i => [(7, .int .i64 (i : Int)), (6, .int .i64 m.length), (5, .slice A m.length c), (0, .slice A m.length c)]) (fun _ => F) (fun i => m.length - i) 0 ⟨Nat.zero_le _, rfl⟩ (by exact kEsub) (by exact kGives) ?_
  rintro i ⟨hi, he⟩
  refine kAutoB ?_
  cases hlt : decide ((i : Int) < (m.length : Int))
  · have hge : i = m.length := by have := of_decide_eq_false hlt; omega
    refine kAutoB ?_
    refine XJ.ret1 rfl rfl [] (by exact kGives) ⟨?_, rfl⟩
    rw [smallB, he, hge, List.drop_length]; rfl
  have hlt' : i < m.length := by have := of_decide_eq_true hlt; omega
  rw [all_drop hlt'] at he
  obtain ⟨b1, o1, A1, c1, rfl, hb1, hc1, hr1⟩ := ha i hlt'
  refine kAutoB ?_
  apply RL.pur; (apply OpP.indexAddr; exact kEv; exact kEv; exact hlt'); exact rfl
  refine kAutoB ?_
  cases f : decide (((m[i]'hlt').length : Int) > 70)
  · rw [f] at he
    refine kAutoB ?_
    rw [i64_up i (by omega)]
    exact XJ.round (i + 1) ⟨by omega, he⟩ (by omega) (by exact kEsub) (by exact kGives)
  · rw [f] at he
    refine kAutoB ?_
    refine XJ.ret1 rfl rfl [] (by exact kGives) ⟨?_, rfl⟩
    rw [smallB, he]; rfl
def greatL (p : Prg) (m : Mem) (inp : List Int) : Bool := greatP p || !smallB m.shared || decide ((m.arrays.length : Int) > 10) || decide ((inp.length : Int) > 40) || m.arrays.any (fun q => !smallB q)
theorem Great16_spec (w0 : World) (p : Prg) (cs : List Value) (hR : PrgR w0 p cs) (m : Mem) (ms : List Value) (hM : MemR w0 ms m) (hl : m.shared.length ≤ maxLen) (hla : ∀ q ∈ m.arrays, q.length ≤ maxLen) (inV : Value) (inp : List Int) (hin : IntsR w0 inV inp) :
    Spec Tryz.prog w0 14 #[.agg cs.toArray, .agg ms.toArray, inV] [] (Is (.int .i64 (bI (greatL p m inp)))) := by
  have hG := Great12_spec w0 p cs hR
  obtain ⟨A1, c1, A2, c2, rfl, h1, h2, h3, h4⟩ := hR.ex
  obtain ⟨u, v, rfl, hu, hv⟩ := hM
  have hS := small_spec w0 v m.shared hv hl
  obtain ⟨A, c, rfl, hc, ha⟩ := hu.at_
  obtain ⟨Ai, ci, rfl, hci, hri⟩ := hin
  refine Spec.enter (args := [_, _, _]) Tryz.func14 rfl rfl rfl (fun F => ?_)
  refine kAutoB ?_
  (apply RL.boxR; exact kEv; exact rfl; intro b3)
  (apply RL.boxR; exact kEv; exact rfl; intro b4)
  refine kAutoB ?_
  (apply RL.callIs; exact kEv; exact inferInstance; exact kEvl; exact hG; exact rfl)
  cases e1 : greatP p
  case true =>
    refine kAutoB ?_
    refine XJ.ret1 rfl rfl [] (by exact kGives) ⟨?_, rfl⟩
    rw [greatL, e1]; rfl
  refine kAutoB ?_
  (apply RL.callIs; exact kEv; exact inferInstance; exact kEvl; exact hS; exact rfl)
  cases e2 : smallB m.shared
  case false =>
    refine kAutoB ?_
    refine XJ.ret1 rfl rfl [] (by exact kGives) ⟨?_, rfl⟩
    rw [greatL, e1, e2]; rfl
  refine kAutoB ?_
  cases e3 : decide ((m.arrays.length : Int) > 10)
  case true =>
    refine kAutoB ?_
    refine XJ.ret1 rfl rfl [] (by exact kGives) ⟨?_, rfl⟩
    rw [greatL, e1, e2, e3]; rfl
  have e3' := of_decide_eq_false e3
  refine kAutoB ?_
  cases e4 : decide ((inp.length : Int) > 40)
  case true =>
    refine kAutoB ?_
    refine XJ.ret1 rfl rfl [] (by exact kGives) ⟨?_, rfl⟩
    rw [greatL, e1, e2, e3, e4]; rfl
  refine kAutoB ?_
  refine CJ.loop (σ := Nat) (fun i => i ≤ m.arrays.length ∧ m.arrays.any (fun q => !smallB q) = (m.arrays.drop i).any (fun q => !smallB q)) (fun i => [(32, .int .i64 (i : Int)), (31, .int .i64 m.arrays.length), (30, .slice A m.arrays.length c)]) (fun _ => F) (fun i => m.arrays.length - i) 0 ⟨Nat.zero_le _, rfl⟩ (by exact kEsub) (by exact kGives) ?_
  rintro i ⟨hi, he⟩
  refine kAutoB ?_
  cases hlt : decide ((i : Int) < (m.arrays.length : Int))
  · have hge : i = m.arrays.length := by have := of_decide_eq_false hlt; omega
    refine kAutoB ?_
    refine XJ.ret1 rfl rfl [] (by exact kGives) ⟨?_, rfl⟩
    rw [greatL, e1, e2, e3, e4, he, hge, List.drop_length]; rfl
  have hlt' : i < m.arrays.length := by have := of_decide_eq_true hlt; omega
  rw [any_drop hlt'] at he
  obtain ⟨b1, o1, x1, rfl, hb1, hm1⟩ := ha i hlt'
  have hS1 := small_spec w0 x1 _ hm1 (hla _ (List.getElem_mem hlt'))
  refine kAutoB ?_
  apply RL.pur; (apply OpP.indexAddr; exact kEv; exact kEv; exact hlt'); exact rfl
  apply RL.pur; (apply OpP.load; exact kEv; exact HasAt.base hb1); exact rfl
  refine kAutoB ?_
  (apply RL.callIs; exact kEv; exact inferInstance; exact kEvl; exact hS1; exact rfl)
  cases f : smallB (m.arrays[i]'hlt')
  · rw [f] at he
    refine kAutoB ?_
    refine XJ.ret1 rfl rfl [] (by exact kGives) ⟨?_, rfl⟩
    rw [greatL, e1, e2, e3, e4, he]; rfl
  · rw [f] at he
    refine kAutoB ?_
    rw [i64_up i (by omega)]
    exact XJ.round (i + 1) ⟨by omega, he⟩ (by omega) (by exact kEsub) (by exact kGives)
end Go.Proofs.YtgmapenlgammfaaGreatDoor
