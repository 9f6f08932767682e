/- The package check: what a name means at a node; all of it read in the base. -/
import Derived.Test.YtgmapenlgammfaaGreatDoorValid
set_option linter.all false
namespace Go.Proofs.YtgmapenlgammfaaGreatDoor
open Go
attribute [local semireducible] HasMap

/-- A map of the base. -/
def MapB (w : World) {κ : Type} [DecidableEq κ] (enc : κ → Value) (r : Nat) (m : κ → Option Value) : Prop := ∃ es clk, w.heap[r]? = some (.map es clk) ∧ MapIs enc es m
theorem MapB.has {w0 : World} {κ : Type} [DecidableEq κ] {enc : κ → Value} {r : Nat} {m : κ → Option Value} {M : List HProp} (h : MapB w0 enc r m) : HasMap w0 M enc r m := by
  obtain ⟨es, clk, h1, h2⟩ := h
  exact HasMap.base h1 h2
structure Scope where
  scalars : ByteArray → Bool
  loops : ByteArray → Bool
  held : List ByteArray
structure Ctx where
  vars : ByteArray → Bool
  arrays : ByteArray → Bool
  shared : ByteArray → Bool
def varE (C : Ctx) (S : Scope) (name : ByteArray) (place : Bool) : Int :=
  if place && S.loops name then 7 else if S.scalars name then 0 else if C.arrays name || C.shared name then 7 else 6
def itemE (C : Ctx) (S : Scope) (name : ByteArray) : Int :=
  if C.arrays name then 0 else if C.shared name then (if S.held.any (fun y => decide (name = y)) then 0 else 12) else if S.scalars name then 7 else 6
/-- The error of one node. -/
def faultE (C : Ctx) (S : Scope) (k : Int) (name : ByteArray) (place : Bool) : Int :=
  if k = 2 then varE C S name place
  else if k = 3 then itemE C S name
  else if k = 42 then (if C.vars name || C.arrays name || C.shared name || S.loops name then 8 else 0)
  else if k = 46 then (if !C.shared name then 6 else if S.held.length = 0 then 0 else 12)
  else 0
/-- How the checker and a scope lie in the base. -/
structure CtxB (w : World) (bc : Nat) (C : Ctx) : Prop where
  ex : ∃ task rv ra rs vout, Base w bc 0 [.int .i64 task, .map (some rv), .map (some ra), .map (some rs), vout] ∧ MapB w Value.string rv (setM C.vars) ∧ MapB w Value.string ra (setM C.arrays) ∧ MapB w Value.string rs (setM C.shared)
structure ScopeB (w : World) (v : Value) (S : Scope) : Prop where
  ex : ∃ r1 r2 A c, v = .agg #[.map (some r1), .map (some r2), .slice A S.held.length c] ∧ MapB w Value.string r1 (setM S.scalars) ∧ MapB w Value.string r2 (setM S.loops) ∧ RowsB w 1 A (S.held.map strRow)
attribute [local semireducible] Base in
theorem Base.one {w : World} {b o : Nat} {vs : List Value} (h : Base w b o vs) (i : Nat) {v : Value} (e : vs[i]? = some v) : Base w b (o + i) [v] := by
  intro j u hu
  rcases j with _ | j
  · simp at hu; subst hu; exact h i v e
  · simp at hu

theorem sindex_spec (w0 : World) (l : List ByteArray) (x : ByteArray) (A : Option Addr) (c : Nat) (hl : l.length < 4611686018427387904) (hh : RowsB w0 1 A (l.map strRow)) :
    Spec Tryz.prog w0 180 #[.slice A l.length c, .string x] [] (Is (.int .i64 (idxOf l x 0))) := by
  refine Spec.enter (args := [_, _]) Tryz.func180 rfl rfl rfl (fun F => ?_)
  refine kAuto ?_
  refine CJ.loop (σ := Nat) (fun i => i ≤ l.length ∧ idxOf l x 0 = idxOf (l.drop i) x i) (fun i => [(8, .int .i64 (i : Int)), (0, .slice A l.length c), (1, .string x), (7, .int .i64 (l.length : Int))]) (fun _ => F) (fun i => l.length - i) 0 ⟨Nat.zero_le _, by simp⟩ (by exact kEsub) (Gives.refl _) ?_
  intro i ⟨hi, he⟩
  refine kAuto ?_
  cases hlt : decide ((i : Int) < (l.length : Int))
  · have hge : i = l.length := by have := of_decide_eq_false hlt; omega
    refine kAuto ?_
    refine XJ.ret1 rfl rfl [] (by exact kGives) ⟨?_, rfl⟩
    rw [he, hge, List.drop_length]
    rfl
  · have hlt' : i < l.length := by have := of_decide_eq_true hlt; omega
    obtain ⟨b, o, rfl, hrl, hb⟩ := hh.at_ i (by simpa using hlt')
    simp only [List.getElem_map, strRow] at hb hrl
    refine kAuto ?_
    apply RL.pur; (apply OpP.indexAddr; exact kEv; exact kEv; exact hlt'); exact rfl
    apply RL.pur; (apply OpP.load; exact kEv; exact HasAt.base hb); exact rfl
    refine kAuto ?_
    have hd : l.drop i = l[i]'hlt' :: l.drop (i + 1) := List.drop_eq_getElem_cons hlt'
    cases hc : decide (x = l[i]'hlt')
    · refine kAuto ?_
      rw [i64_succ i (by omega)]
      refine XJ.round (i + 1) ⟨by omega, ?_⟩ (by omega) (by exact kEsub) (Gives.refl _)
      rw [he, hd]
      have hc' := of_decide_eq_false hc
      simp [idxOf, hc']
    · refine kAuto ?_
      refine XJ.ret1 rfl rfl [] (by exact kGives) ⟨?_, rfl⟩
      rw [he, hd]
      have hc' := of_decide_eq_true hc
      simp [idxOf, hc']
theorem scontains_spec (w0 : World) (l : List ByteArray) (x : ByteArray) (A : Option Addr) (c : Nat) (hl : l.length < 4611686018427387904) (hh : RowsB w0 1 A (l.map strRow)) :
    Spec Tryz.prog w0 172 #[.slice A l.length c, .string x] [] (Is (.bool (l.any fun y => decide (x = y)))) := by
  refine Spec.enter (args := [_, _]) Tryz.func172 rfl rfl rfl (fun F => ?_)
  refine kAuto ?_
  (apply RL.callIs; exact kEv; exact inferInstance; exact kEvl; exact sindex_spec w0 l x A c hl hh; exact rfl)
  refine kAuto ?_
  refine XJ.ret1 rfl rfl [] (by exact kGives) ⟨?_, rfl⟩
  rw [idxOf_nonneg]
theorem variable_spec (w0 : World) (bc : Nat) (C : Ctx) (S : Scope) (vs : Value) (hC : CtxB w0 bc C) (hS : ScopeB w0 vs S) (name : ByteArray) (place : Bool) :
    Spec Tryz.prog w0 162 #[.pointer (some ⟨bc, 0, none⟩), .string name, .bool place, vs] [] (Is (.int .i64 (varE C S name place))) := by
  obtain ⟨task, rv, ra, rs, vout, hb, hv, ha, hs⟩ := hC.ex
  obtain ⟨r1, r2, A, c, rfl, h1, h2, h3⟩ := hS.ex
  have b1 := hb.one 1 rfl
  have b2 := hb.one 2 rfl
  have b3 := hb.one 3 rfl
  refine Spec.enter (args := [_, _, _, _]) Tryz.func162 rfl rfl rfl (fun F => ?_)
  refine kAuto ?_
  (apply RL.boxR; exact kEv; exact rfl; intro b7)
  refine kAuto ?_
  cases hp : place
  · refine kAuto ?_
    cases e1 : S.scalars name
    · refine kAuto ?_
      cases e2 : C.arrays name
      · refine kAuto ?_
        cases e3 : C.shared name
        · refine kAuto ?_
          refine XJ.ret1 rfl rfl [] (by exact kGives) ⟨?_, rfl⟩
          rw [varE, e1, e2, e3]; rfl
        · refine kAuto ?_
          refine XJ.ret1 rfl rfl [] (by exact kGives) ⟨?_, rfl⟩
          rw [varE, e1, e2, e3]; rfl
      · refine kAuto ?_
        refine XJ.ret1 rfl rfl [] (by exact kGives) ⟨?_, rfl⟩
        rw [varE, e1, e2]; rfl
    · refine kAuto ?_
      refine XJ.ret1 rfl rfl [] (by exact kGives) ⟨?_, rfl⟩
      rw [varE, e1]; rfl
  · refine kAuto ?_
    cases e0 : S.loops name
    · refine kAuto ?_
      cases e1 : S.scalars name
      · refine kAuto ?_
        cases e2 : C.arrays name
        · refine kAuto ?_
          cases e3 : C.shared name
          · refine kAuto ?_
            refine XJ.ret1 rfl rfl [] (by exact kGives) ⟨?_, rfl⟩
            rw [varE, e0, e1, e2, e3]; rfl
          · refine kAuto ?_
            refine XJ.ret1 rfl rfl [] (by exact kGives) ⟨?_, rfl⟩
            rw [varE, e0, e1, e2, e3]; rfl
        · refine kAuto ?_
          refine XJ.ret1 rfl rfl [] (by exact kGives) ⟨?_, rfl⟩
          rw [varE, e0, e1, e2]; rfl
      · refine kAuto ?_
        refine XJ.ret1 rfl rfl [] (by exact kGives) ⟨?_, rfl⟩
        rw [varE, e0, e1]; rfl
    · refine kAuto ?_
      refine XJ.ret1 rfl rfl [] (by exact kGives) ⟨?_, rfl⟩
      rw [varE, e0]; rfl
theorem item_spec (w0 : World) (bc : Nat) (C : Ctx) (S : Scope) (vs : Value) (hC : CtxB w0 bc C) (hS : ScopeB w0 vs S) (hl : S.held.length < 4611686018427387904) (name : ByteArray) :
    Spec Tryz.prog w0 163 #[.pointer (some ⟨bc, 0, none⟩), .string name, vs] [] (Is (.int .i64 (itemE C S name))) := by
  obtain ⟨task, rv, ra, rs, vout, hb, hv, ha, hs⟩ := hC.ex
  obtain ⟨r1, r2, A, c, rfl, h1, h2, h3⟩ := hS.ex
  have b1 := hb.one 1 rfl
  have b2 := hb.one 2 rfl
  have b3 := hb.one 3 rfl
  refine Spec.enter (args := [_, _, _]) Tryz.func163 rfl rfl rfl (fun F => ?_)
  refine kAuto ?_
  (apply RL.boxR; exact kEv; exact rfl; intro b7)
  refine kAuto ?_
  cases e1 : C.arrays name
  · refine kAuto ?_
    cases e2 : C.shared name
    · refine kAuto ?_
      cases e3 : S.scalars name
      · refine kAuto ?_
        refine XJ.ret1 rfl rfl [] (by exact kGives) ⟨?_, rfl⟩
        rw [itemE, e1, e2, e3]; rfl
      · refine kAuto ?_
        refine XJ.ret1 rfl rfl [] (by exact kGives) ⟨?_, rfl⟩
        rw [itemE, e1, e2, e3]; rfl
    · refine kAuto ?_
      (apply RL.callIs; exact kEv; exact inferInstance; exact kEvl; exact scontains_spec w0 S.held name A c hl h3; exact rfl)
      cases e4 : S.held.any (fun y => decide (name = y))
      · refine kAuto ?_
        refine XJ.ret1 rfl rfl [] (by exact kGives) ⟨?_, rfl⟩
        rw [itemE, e1, e2, e4]; rfl
      · refine kAuto ?_
        refine XJ.ret1 rfl rfl [] (by exact kGives) ⟨?_, rfl⟩
        rw [itemE, e1, e2, e4]; rfl
  · refine kAuto ?_
    refine XJ.ret1 rfl rfl [] (by exact kGives) ⟨?_, rfl⟩
    rw [itemE, e1]; rfl
theorem fault_spec (w0 : World) (bc : Nat) (C : Ctx) (S : Scope) (vs : Value) (hC : CtxB w0 bc C) (hS : ScopeB w0 vs S) (hl : S.held.length < 4611686018427387904) (k num : Int) (name : ByteArray) (kv : Value) (place : Bool) :
    Spec Tryz.prog w0 132 #[.pointer (some ⟨bc, 0, none⟩), .agg #[.int .u8 k, .int .i64 num, .string name, kv], .bool place, vs] [] (Is (.int .i64 (faultE C S k name place))) := by
  have hV := variable_spec w0 bc C S vs hC hS name place
  have hI := item_spec w0 bc C S vs hC hS hl name
  obtain ⟨task, rv, ra, rs, vout, hb, hv, ha, hs⟩ := hC.ex
  obtain ⟨r1, r2, A, c, rfl, h1, h2, h3⟩ := hS.ex
  have b1 := hb.one 1 rfl
  have b2 := hb.one 2 rfl
  have b3 := hb.one 3 rfl
  refine Spec.enter (args := [_, _, _, _]) Tryz.func132 rfl rfl rfl (fun F => ?_)
  refine kAuto ?_
  (apply RL.boxR; exact kEv; exact rfl; intro b5)
  (apply RL.boxR; exact kEv; exact rfl; intro b7)
  refine kAuto ?_
  cases e2 : (k == 2)
  case true =>
    have e2' : k = 2 := by simpa using e2
    refine kAuto ?_
    (apply RL.callIs; exact kEv; exact inferInstance; exact kEvl; exact hV; exact rfl)
    refine kAuto ?_
    refine XJ.ret1 rfl rfl [] (by exact kGives) ⟨?_, rfl⟩
    rw [faultE, if_pos e2']
  have e2' : ¬ k = 2 := by simpa using e2
  refine kAuto ?_
  cases e3 : (k == 3)
  case true =>
    have e3' : k = 3 := by simpa using e3
    refine kAuto ?_
    (apply RL.callIs; exact kEv; exact inferInstance; exact kEvl; exact hI; exact rfl)
    refine kAuto ?_
    refine XJ.ret1 rfl rfl [] (by exact kGives) ⟨?_, rfl⟩
    rw [faultE, if_neg e2', if_pos e3']
  have e3' : ¬ k = 3 := by simpa using e3
  refine kAuto ?_
  cases e42 : (k == 42)
  case true =>
    have e42' : k = 42 := by simpa using e42
    have hF : faultE C S k name place = (if C.vars name || C.arrays name || C.shared name || S.loops name then 8 else 0) := by rw [faultE, if_neg e2', if_neg e3', if_pos e42']
    rw [hF]
    refine kAuto ?_
    (refine CJ.draws mixed 32 _ (by exact kGives) (dom_of (by kernel_rfl)) ?_)
    ((first | refine kAj 0 ?_ | refine kAjS 0 ?_); (first | refine kAj 1 ?_ | refine kAjS 1 ?_); (first | refine kAj 2 ?_ | refine kAjS 2 ?_); (first | refine kAj 3 ?_ | refine kAjS 3 ?_); (first | refine kAj 4 ?_ | refine kAjS 4 ?_); (first | refine kAj 5 ?_ | refine kAjS 5 ?_); (first | refine kAj 6 ?_ | refine kAjS 6 ?_); (first | refine kAj 7 ?_ | refine kAjS 7 ?_))
    cases f1 : C.vars name
    case true =>
      ((first | refine kAj 8 ?_ | refine kAjS 8 ?_); (first | refine kAj 9 ?_ | refine kAjS 9 ?_); (first | refine kAj 10 ?_ | refine kAjS 10 ?_); (first | refine kAj 11 ?_ | refine kAjS 11 ?_); (first | refine kAj 12 ?_ | refine kAjS 12 ?_); (first | refine kAj 13 ?_ | refine kAjS 13 ?_); (first | refine kAj 14 ?_ | refine kAjS 14 ?_); (first | refine kAj 15 ?_ | refine kAjS 15 ?_); (first | refine kAj 16 ?_ | refine kAjS 16 ?_); (first | refine kAj 17 ?_ | refine kAjS 17 ?_); (first | refine kAj 18 ?_ | refine kAjS 18 ?_); (first | refine kAj 19 ?_ | refine kAjS 19 ?_); (first | refine kAj 20 ?_ | refine kAjS 20 ?_); (first | refine kAj 21 ?_ | refine kAjS 21 ?_); (first | refine kAj 22 ?_ | refine kAjS 22 ?_); (first | refine kAj 23 ?_ | refine kAjS 23 ?_); (first | refine kAj 24 ?_ | refine kAjS 24 ?_); (first | refine kAj 25 ?_ | refine kAjS 25 ?_); (first | refine kAj 26 ?_ | refine kAjS 26 ?_); (first | refine kAj 27 ?_ | refine kAjS 27 ?_); (first | refine kAj 28 ?_ | refine kAjS 28 ?_); (first | refine kAj 29 ?_ | refine kAjS 29 ?_); (first | refine kAj 30 ?_ | refine kAjS 30 ?_); (first | refine kAj 31 ?_ | refine kAjS 31 ?_))
      (refine AJ.done (by kernel_rfl) (by kernel_rfl) rfl (by kernel_rfl) ?_)
      refine kAuto ?_
      refine XJ.ret1 rfl rfl [] (by exact kGives) ⟨?_, rfl⟩
      rfl
    ((first | refine kAj 8 ?_ | refine kAjS 8 ?_); (first | refine kAj 9 ?_ | refine kAjS 9 ?_); (first | refine kAj 10 ?_ | refine kAjS 10 ?_); (first | refine kAj 11 ?_ | refine kAjS 11 ?_); (first | refine kAj 12 ?_ | refine kAjS 12 ?_); (first | refine kAj 13 ?_ | refine kAjS 13 ?_); (first | refine kAj 14 ?_ | refine kAjS 14 ?_); (first | refine kAj 15 ?_ | refine kAjS 15 ?_); (first | refine kAj 16 ?_ | refine kAjS 16 ?_))
    cases f2 : C.arrays name
    case true =>
      ((first | refine kAj 17 ?_ | refine kAjS 17 ?_); (first | refine kAj 18 ?_ | refine kAjS 18 ?_); (first | refine kAj 19 ?_ | refine kAjS 19 ?_); (first | refine kAj 20 ?_ | refine kAjS 20 ?_); (first | refine kAj 21 ?_ | refine kAjS 21 ?_); (first | refine kAj 22 ?_ | refine kAjS 22 ?_); (first | refine kAj 23 ?_ | refine kAjS 23 ?_); (first | refine kAj 24 ?_ | refine kAjS 24 ?_); (first | refine kAj 25 ?_ | refine kAjS 25 ?_); (first | refine kAj 26 ?_ | refine kAjS 26 ?_); (first | refine kAj 27 ?_ | refine kAjS 27 ?_); (first | refine kAj 28 ?_ | refine kAjS 28 ?_); (first | refine kAj 29 ?_ | refine kAjS 29 ?_); (first | refine kAj 30 ?_ | refine kAjS 30 ?_); (first | refine kAj 31 ?_ | refine kAjS 31 ?_))
      (refine AJ.done (by kernel_rfl) (by kernel_rfl) rfl (by kernel_rfl) ?_)
      refine kAuto ?_
      refine XJ.ret1 rfl rfl [] (by exact kGives) ⟨?_, rfl⟩
      rfl
    ((first | refine kAj 17 ?_ | refine kAjS 17 ?_); (first | refine kAj 18 ?_ | refine kAjS 18 ?_); (first | refine kAj 19 ?_ | refine kAjS 19 ?_); (first | refine kAj 20 ?_ | refine kAjS 20 ?_); (first | refine kAj 21 ?_ | refine kAjS 21 ?_); (first | refine kAj 22 ?_ | refine kAjS 22 ?_); (first | refine kAj 23 ?_ | refine kAjS 23 ?_); (first | refine kAj 24 ?_ | refine kAjS 24 ?_); (first | refine kAj 25 ?_ | refine kAjS 25 ?_))
    cases f3 : C.shared name
    case true =>
      ((first | refine kAj 26 ?_ | refine kAjS 26 ?_); (first | refine kAj 27 ?_ | refine kAjS 27 ?_); (first | refine kAj 28 ?_ | refine kAjS 28 ?_); (first | refine kAj 29 ?_ | refine kAjS 29 ?_); (first | refine kAj 30 ?_ | refine kAjS 30 ?_); (first | refine kAj 31 ?_ | refine kAjS 31 ?_))
      (refine AJ.done (by kernel_rfl) (by kernel_rfl) rfl (by kernel_rfl) ?_)
      refine kAuto ?_
      refine XJ.ret1 rfl rfl [] (by exact kGives) ⟨?_, rfl⟩
      rfl
    ((first | refine kAj 26 ?_ | refine kAjS 26 ?_); (first | refine kAj 27 ?_ | refine kAjS 27 ?_); (first | refine kAj 28 ?_ | refine kAjS 28 ?_); (first | refine kAj 29 ?_ | refine kAjS 29 ?_); (first | refine kAj 30 ?_ | refine kAjS 30 ?_); (first | refine kAj 31 ?_ | refine kAjS 31 ?_))
    (refine AJ.done (by kernel_rfl) (by kernel_rfl) rfl (by kernel_rfl) ?_)
    refine kAuto ?_
    cases f4 : S.loops name
    · refine kAuto ?_
      refine XJ.ret1 rfl rfl [] (by exact kGives) ⟨?_, rfl⟩
      rfl
    · refine kAuto ?_
      refine XJ.ret1 rfl rfl [] (by exact kGives) ⟨?_, rfl⟩
      rfl
  have e42' : ¬ k = 42 := by simpa using e42
  refine kAuto ?_
  cases e46 : (k == 46)
  case true =>
    have e46' : k = 46 := by simpa using e46
    have hF : faultE C S k name place = (if !C.shared name then 6 else if S.held.length = 0 then 0 else 12) := by rw [faultE, if_neg e2', if_neg e3', if_neg e42', if_pos e46']
    rw [hF]
    refine kAuto ?_
    (refine CJ.draws mixed 8 _ (by exact kGives) (dom_of (by kernel_rfl)) ?_)
    ((first | refine kAj 0 ?_ | refine kAjS 0 ?_); (first | refine kAj 1 ?_ | refine kAjS 1 ?_); (first | refine kAj 2 ?_ | refine kAjS 2 ?_); (first | refine kAj 3 ?_ | refine kAjS 3 ?_); (first | refine kAj 4 ?_ | refine kAjS 4 ?_); (first | refine kAj 5 ?_ | refine kAjS 5 ?_); (first | refine kAj 6 ?_ | refine kAjS 6 ?_); (first | refine kAj 7 ?_ | refine kAjS 7 ?_))
    (refine AJ.done (by kernel_rfl) (by kernel_rfl) rfl (by kernel_rfl) ?_)
    refine kAuto ?_
    cases f1 : C.shared name
    case false =>
      refine kAuto ?_
      refine XJ.ret1 rfl rfl [] (by exact kGives) ⟨?_, rfl⟩
      rfl
    refine kAuto ?_
    cases f2 : decide ((S.held.length : Int) > 0)
    · have f2' : S.held.length = 0 := by have := of_decide_eq_false f2; omega
      refine kAuto ?_
      refine XJ.ret1 rfl rfl [] (by exact kGives) ⟨?_, rfl⟩
      simp [f2']
    · have f2' : ¬ S.held.length = 0 := by have := of_decide_eq_true f2; omega
      refine kAuto ?_
      refine XJ.ret1 rfl rfl [] (by exact kGives) ⟨?_, rfl⟩
      simp [f2']
  have e46' : ¬ k = 46 := by simpa using e46
  refine kAuto ?_
  refine XJ.ret1 rfl rfl [] (by exact kGives) ⟨?_, rfl⟩
  rw [faultE, if_neg e2', if_neg e3', if_neg e42', if_neg e46']
end Go.Proofs.YtgmapenlgammfaaGreatDoor
