/- The package check: the names that a task declares. -/
import Derived.Test.YtgmapenlgammfaaGreatDoorDecl
set_option linter.all false
namespace Go.Proofs.YtgmapenlgammfaaGreatDoor
open Go

def stepV (p : Nat × Ctx) (s : ByteArray) : Nat × Ctx := (p.1 + hitN p.2 s, insV p.2 s)
def stepA (p : Nat × Ctx) (a : Arr) : Nat × Ctx := (p.1 + hitN p.2 a.name, insA p.2 a.name)
def declT (p : Nat × Ctx) (t : Task) : Nat × Ctx := t.arrays.foldl stepA (t.vars.foldl stepV p)
theorem hitN_le (C : Ctx) (s : ByteArray) : hitN C s ≤ 1 := by unfold hitN; split <;> omega
section
attribute [local semireducible] Takes Gives pt HasAt
/-- One cell of a block of one's own. -/
def atp (b o : Nat) (v : Value) : HProp := fun h => ∃ cs T, h b = some (.rw (.cells (List.toArray cs) T (0, 0))) ∧ cs[o]? = some v
theorem Gives.atp {b o T : Nat} {v : Value} {cs : List Value} {M M1 N : List HProp} (k : Takes M [cel b T cs] M1) (e : cs[o]? = some v) (g : Gives M1 N) : Gives M (Go.Proofs.YtgmapenlgammfaaGreatDoor.atp b o v :: N) := fun h m => by
  obtain ⟨h1, h2, l1, l2, d, a, m2⟩ := k h m
  exact ⟨h1, h2, l1, l2, d, ⟨cs, T, a, e⟩, g h2 m2⟩
theorem HasAt.atp {w0 : World} {b o : Nat} {v : Value} {M M' : List HProp} (t : Takes M [Go.Proofs.YtgmapenlgammfaaGreatDoor.atp b o v] M') : HasAt w0 M b o [v] := fun w h m s => by
  obtain ⟨h1, h2, l1, l2, d, ⟨cs, T, a, e⟩, m2⟩ := t h m
  have hb := (s.own _ _ (l1 _ _ a)).2
  exact HasAt.heap hb (at1 e)
end
theorem foldl_take' {α β : Type} (f : β → α → β) (b : β) (l : List α) (i : Nat) (h : i < l.length) : (l.take (i + 1)).foldl f b = f ((l.take i).foldl f b) l[i] := foldl_take f b l i h
theorem declare_spec (w0 : World) (t : Task) (cs : List Value) (hR : TaskR w0 t cs) (hl : cs.length = 8) (h1 : t.vars.length ≤ 10000000000) (h2 : t.arrays.length ≤ 10000000000) (bc : Nat) (task : Int) (rv ra rs : Nat) (Ao : Option Addr) (k co : Nat) (xs : List Value) (C : Ctx) (hk : k ≤ 10000000000) :
    Spec Tryz.prog w0 89 #[.pointer (some ⟨bc, 0, none⟩), .agg cs.toArray]
      (ckM bc task rv ra rs Ao k co xs ++ [mp Value.string rv (setM C.vars), mp Value.string ra (setM C.arrays), rmp Value.string rs (setM C.shared)])
      (Ret (fun v N => v = .tuple #[] ∧ ∃ A' c' xs', N = ckM bc task rv ra rs A' (declT (k, C) t).1 c' xs' ++ [mp Value.string rv (setM (declT (k, C) t).2.vars), mp Value.string ra (setM (declT (k, C) t).2.arrays)]) noP) := by
  obtain ⟨A1, c1, A2, c2, bs, rfl, g1, g2, g3, g4, g5⟩ := hR.ex
  obtain ⟨A0, cap0, hbs, _⟩ := g5.kids
  subst hbs
  refine Spec.enter (args := [_, _]) Tryz.func89 rfl rfl rfl (fun F => ?_)
  refine kAuto ?_
  (apply RL.box1; exact kEv; exact rfl; exact rfl; intro b2)
  (apply RL.boxR; exact kEv; exact rfl; intro b3)
  refine kAuto ?_
  generalize hcs : ([Value.string t.name, Value.int IntKind.i64 t.period, Value.slice A1 t.vars.length c1, Value.slice A2 t.arrays.length c2] ++ [Value.int IntKind.u8 t.body.kind, Value.int IntKind.i64 t.body.num, Value.string t.body.name, Value.slice A0 t.body.kids.length cap0]) = tcs
  refine CJ.loop (σ := Nat × Option Addr × Nat × Nat × List Value × Ctx) (fun s => s.1 ≤ t.vars.length ∧ (s.2.2.1, s.2.2.2.2.2) = (t.vars.take s.1).foldl stepV (k, C) ∧ s.2.2.1 ≤ k + s.1 ∧ s.2.2.2.2.2.shared = C.shared)
    (fun s => [(13, .int .i64 (s.1 : Int)), (12, .int .i64 t.vars.length), (11, .slice A1 t.vars.length c1), (4, .func (.func 131) #[] #[.pointer (some ⟨b2, 0, none⟩)]), (2, .pointer (some ⟨b2, 0, none⟩)), (3, .pointer (some ⟨b3, 0, none⟩))])
    (fun s => rcel b3 52 tcs :: cel b2 208 [.pointer (some ⟨bc, 0, none⟩)] :: (ckM bc task rv ra rs s.2.1 s.2.2.1 s.2.2.2.1 s.2.2.2.2.1 ++ (mp Value.string rv (setM s.2.2.2.2.2.vars) :: mp Value.string ra (setM s.2.2.2.2.2.arrays) :: rmp Value.string rs (setM C.shared) :: F)))
    (fun s => t.vars.length - s.1) (0, Ao, k, co, xs, C) ⟨Nat.zero_le _, by simp, by simp, rfl⟩ (by exact kEsub) (by exact kGives) ?_
  rintro ⟨i, Ao1, k1, co1, xs1, C1⟩ ⟨hi, hst, hk1, hsh⟩
  simp only at hi hst hk1 hsh
  refine kAuto ?_
  cases hlt : decide ((i : Int) < (t.vars.length : Int))
  · have hge : i = t.vars.length := by have := of_decide_eq_false hlt; omega
    subst hge
    rw [List.take_length] at hst
    refine kAuto ?_
    subst hcs
    refine kAuto ?_
    generalize hcs : ([Value.string t.name, Value.int IntKind.i64 t.period, Value.slice A1 t.vars.length c1, Value.slice A2 t.arrays.length c2] ++ [Value.int IntKind.u8 t.body.kind, Value.int IntKind.i64 t.body.num, Value.string t.body.name, Value.slice A0 t.body.kids.length cap0]) = tcs
    refine CJ.loop (σ := Nat × Option Addr × Nat × Nat × List Value × Ctx) (fun s => s.1 ≤ t.arrays.length ∧ (s.2.2.1, s.2.2.2.2.2) = (t.arrays.take s.1).foldl stepA (k1, C1) ∧ s.2.2.1 ≤ k1 + s.1 ∧ s.2.2.2.2.2.shared = C.shared)
      (fun s => [(28, .int .i64 (s.1 : Int)), (27, .int .i64 t.arrays.length), (26, .slice A2 t.arrays.length c2), (4, .func (.func 131) #[] #[.pointer (some ⟨b2, 0, none⟩)]), (2, .pointer (some ⟨b2, 0, none⟩)), (3, .pointer (some ⟨b3, 0, none⟩))])
      (fun s => cel b2 208 [.pointer (some ⟨bc, 0, none⟩)] :: (ckM bc task rv ra rs s.2.1 s.2.2.1 s.2.2.2.1 s.2.2.2.2.1 ++ (mp Value.string rv (setM s.2.2.2.2.2.vars) :: mp Value.string ra (setM s.2.2.2.2.2.arrays) :: rmp Value.string rs (setM C.shared) :: F)))
      (fun s => t.arrays.length - s.1) (0, Ao1, k1, co1, xs1, C1) ⟨Nat.zero_le _, by simp, by simp, hsh⟩ (by exact kEsub) (by exact kGives) ?_
    rintro ⟨i, Ao2, k2, co2, xs2, C2⟩ ⟨hi, hst2, hk2, hsh2⟩
    simp only at hi hst2 hk2 hsh2
    refine kAuto ?_
    cases hlt : decide ((i : Int) < (t.arrays.length : Int))
    · have hge : i = t.arrays.length := by have := of_decide_eq_false hlt; omega
      subst hge
      rw [List.take_length] at hst2
      refine kAuto ?_
      have hd : declT (k, C) t = (k2, C2) := by rw [hst2, hst]; rfl
      refine XJ.end0 rfl (ckM bc task rv ra rs Ao2 k2 co2 xs2 ++ [mp Value.string rv (setM C2.vars), mp Value.string ra (setM C2.arrays)]) (by exact kGives) ⟨rfl, Ao2, co2, xs2, by rw [hd]⟩
    · have hlt' : i < t.arrays.length := by have := of_decide_eq_true hlt; omega
      obtain ⟨b, o, rfl, hrl, hb⟩ := g4.at_ i (by simpa using hlt')
      simp only [List.getElem_map, arrRow] at hb hrl
      refine kAuto ?_
      apply RL.pur; (apply OpP.indexAddr; exact kEv; exact kEv; exact hlt'); exact rfl
      apply RL.pur; (apply OpP.loadA; exact kEv; exact HasAt.base hb; exact hrl); exact rfl
      (apply RL.alloc; exact rfl; exact rfl; intro b8)
      refine kAuto ?_
      (apply RL.storeW; exact kEv; exact kEv; exact kTake; exact rfl; exact rfl; exact rfl)
      refine kAuto ?_
      refine CJ.draws mixed 8 [atp bc 2 (.map (some ra)), cel b8 _ _, cel b2 _ _] (Gives.atp (by exact kTake) rfl (by exact kGives)) (dom_of (by kernel_rfl)) ?_
      ((first | refine kAj 0 ?_ | refine kAjS 0 ?_); (first | refine kAj 1 ?_ | refine kAjS 1 ?_); (first | refine kAj 2 ?_ | refine kAjS 2 ?_); (first | refine kAj 3 ?_ | refine kAjS 3 ?_); (first | refine kAj 4 ?_ | refine kAjS 4 ?_); (first | refine kAj 5 ?_ | refine kAjS 5 ?_))
      (apply AJ.pur (i := 6); exact rfl; exact rfl; exact rfl; exact rfl; exact rfl; exact rfl; exact rfl; exact rfl; exact rfl; (apply OpP.load; exact kEv; exact HasAt.atp (Takes.here _ _)))
      have hdc := declA_spec w0 b2 bc task rv ra rs Ao2 k2 co2 xs2 C2 t.arrays[i].name (by omega)
      rw [hsh2] at hdc
      (refine AJ.loud1 (i := 7) (by kernel_rfl) (by kernel_rfl) rfl (by kernel_rfl) (by kernel_rfl) rfl rfl rfl rfl rfl rfl (OpS.callO hdc (by exact kEv) inferInstance (by exact kEvl) (by exact rfl) (by (repeat (first | exact Takes.nil _ | (apply Takes.cons; (repeat (first | exact Takes.pers Pers.rmp | exact Takes.pers Pers.rrow | exact Takes.ro | exact Takes.here _ _ | apply Takes.there))))))) ?_ ?_)
      · rintro _ _ ⟨N, ⟨rfl, A', c', xs', rfl⟩, rfl⟩
        refine ⟨Gives.atp (by exact kTake) rfl (by exact kGives), ?_⟩
        (refine AJ.done (by kernel_rfl) (by kernel_rfl) rfl (by kernel_rfl) ?_)
        refine kAuto ?_
        rw [i64_succ i (by omega)]
        have hh := hitN_le C2 t.arrays[i].name
        refine XJ.round (i + 1, A', k2 + hitN C2 t.arrays[i].name, c', xs', insA C2 t.arrays[i].name) ⟨by simp only; omega, ?_, by simp only; omega, hsh2⟩ (by simp only; omega) (by exact kEsub) (by exact kGives)
        rw [foldl_take _ _ _ _ hlt', ← hst2]
        rfl
      · rintro _ _ ⟨_, h, _⟩; exact h.elim
  · have hlt' : i < t.vars.length := by have := of_decide_eq_true hlt; omega
    obtain ⟨b, o, rfl, hrl, hb⟩ := g3.at_ i (by simpa using hlt')
    simp only [List.getElem_map, strRow] at hb hrl
    refine kAuto ?_
    apply RL.pur; (apply OpP.indexAddr; exact kEv; exact kEv; exact hlt'); exact rfl
    apply RL.pur; (apply OpP.load; exact kEv; exact HasAt.base hb); exact rfl
    refine kAuto ?_
    have hdc := declV_spec w0 b2 bc task rv ra rs Ao1 k1 co1 xs1 C1 t.vars[i] (by omega)
    rw [hsh] at hdc
    (apply RL.callK; exact kEv; exact inferInstance; exact kEvl; rotate_left; exact hdc; rotate_right; exact (by (repeat (first | exact Takes.nil _ | (apply Takes.cons; (repeat (first | exact Takes.pers Pers.rmp | exact Takes.pers Pers.rrow | exact Takes.ro | exact Takes.here _ _ | apply Takes.there)))))); exact rfl)
    rintro _ _ ⟨rfl, A', c', xs', rfl⟩
    refine kAuto ?_
    rw [i64_succ i (by omega)]
    have hh := hitN_le C1 t.vars[i]
    refine XJ.round (i + 1, A', k1 + hitN C1 t.vars[i], c', xs', insV C1 t.vars[i]) ⟨by simp only; omega, ?_, by simp only; omega, hsh⟩ (by simp only; omega) (by exact kEsub) (by exact kGives)
    rw [foldl_take _ _ _ _ hlt', ← hst]
    rfl
end Go.Proofs.YtgmapenlgammfaaGreatDoor
