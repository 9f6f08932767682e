/- The law's comparisons of memories and results. -/
import Derived.Test.YtgmapenlgammfaaGreatDoorCmp
set_option linter.all false
namespace Go.Proofs.YtgmapenlgammfaaGreatDoor
open Go
def eqMem (a b : Mem) : Bool := decide (a.arrays.length = b.arrays.length) && decide (a.shared = b.shared) && decide (a.arrays = b.arrays)
theorem eqMem_iff (a b : Mem) : eqMem a b = true ↔ a = b := by
  obtain ⟨a1, a2⟩ := a
  obtain ⟨b1, b2⟩ := b
  unfold eqMem
  simp only [Bool.and_eq_true, decide_eq_true_eq, Mem.mk.injEq]
  exact ⟨fun ⟨⟨_, h2⟩, h3⟩ => ⟨h3, h2⟩, fun ⟨h1, h2⟩ => ⟨⟨by rw [h1], h2⟩, h1⟩⟩
structure MemL (m : Mem) : Prop where
  len : m.arrays.length ≤ maxLen
  each : ∀ q ∈ m.arrays, MatL q
  shared : MatL m.shared
theorem Equal_spec (w0 : World) (us vs : List Value) (a b : Mem) (ha : MemR w0 us a) (hb : MemR w0 vs b) (hl : MemL a) :
    Spec Tryz.prog w0 17 #[.agg us.toArray, .agg vs.toArray] [] (Is (.int .i64 (if eqMem a b then 1 else 0))) := by
  obtain ⟨u1, u2, rfl, ha1, ha2⟩ := ha
  obtain ⟨v1, v2, rfl, hb1, hb2⟩ := hb
  have hLS := lists_spec w0 u2 v2 a.shared b.shared ha2 hb2 hl.shared
  obtain ⟨A, c, rfl, hc, ha⟩ := ha1.at_
  obtain ⟨B, d, rfl, hd, hb⟩ := hb1.at_
  have hl1 := hl.len
  simp only [maxLen] at hl1
  refine Spec.enter (args := [_, _]) Tryz.func17 rfl rfl rfl (fun F => ?_)
  refine kAutoB ?_
  (apply RL.boxR; exact kEv; exact rfl; intro b2)
  (apply RL.boxR; exact kEv; exact rfl; intro b3)
  refine kAutoB ?_
  cases hne : ((a.arrays.length : Int) != (b.arrays.length : Int))
  case true =>
    have hn : a.arrays.length ≠ b.arrays.length := by simp at hne; omega
    refine kAutoB ?_
    refine XJ.ret1 rfl rfl [] (by exact kGives) ⟨?_, rfl⟩
    rw [eqMem, decide_eq_false hn]; rfl
  have hlen : a.arrays.length = b.arrays.length := by simp at hne; omega
  refine kAutoB ?_
  (apply RL.callIs; exact kEv; exact inferInstance; exact kEvl; exact hLS; exact rfl)
  cases hsh : decide (a.shared = b.shared)
  · refine kAutoB ?_
    refine XJ.ret1 rfl rfl [] (by exact kGives) ⟨?_, rfl⟩
    rw [eqMem, hsh, Bool.and_false, Bool.false_and]; rfl
  refine kAutoB ?_
  refine CJ.loop (σ := Nat) (fun i => i ≤ a.arrays.length ∧ a.arrays.take i = b.arrays.take i) (fun i => [(24, .int .i64 (i : Int)), (23, .int .i64 a.arrays.length), (2, .pointer (some ⟨b2, 0, none⟩)), (3, .pointer (some ⟨b3, 0, none⟩))]) (fun _ => rcel b3 29 [.slice B b.arrays.length d, v2] :: rcel b2 29 [.slice A a.arrays.length c, u2] :: F) (fun i => a.arrays.length - i) 0 ⟨Nat.zero_le _, rfl⟩ (by exact kEsub) (by exact kGives) ?_
  rintro i ⟨hi, he⟩
  refine kAutoB ?_
  cases hlt : decide ((i : Int) < (a.arrays.length : Int))
  · have hge : i = a.arrays.length := by have := of_decide_eq_false hlt; omega
    refine kAutoB ?_
    refine XJ.ret1 rfl rfl [] (by exact kGives) ⟨?_, rfl⟩
    rw [hge, List.take_length, hlen, List.take_length] at he
    rw [eqMem, hsh, decide_eq_true he, decide_eq_true hlen]; rfl
  have hlt' : i < a.arrays.length := by have := of_decide_eq_true hlt; omega
  have hlt2 : i < b.arrays.length := by omega
  obtain ⟨b4, o4, x4, rfl, hb4, hm4⟩ := ha i hlt'
  obtain ⟨b5, o5, x5, rfl, hb5, hm5⟩ := hb i hlt2
  have hLi := lists_spec w0 x4 x5 _ _ hm4 hm5 (hl.each _ (List.getElem_mem hlt'))
  refine kAutoB ?_
  (refine CJ.draws mixed 12 [rcel b2 29 _, rcel b3 29 _] (by exact kGives) (dom_of (by kernel_rfl)) ?_)
  ((first | refine kAjB 0 ?_ | refine kAjS 0 ?_); (first | refine kAjB 1 ?_ | refine kAjS 1 ?_); (first | refine kAjB 2 ?_ | refine kAjS 2 ?_))
  (apply AJ.pur (i := 3); exact rfl; exact rfl; exact rfl; exact rfl; exact rfl; exact rfl; exact rfl; exact rfl; exact rfl; (apply OpP.indexAddr; exact kEv; exact kEv; exact hlt'))
  (apply AJ.pur (i := 4); exact rfl; exact rfl; exact rfl; exact rfl; exact rfl; exact rfl; exact rfl; exact rfl; exact rfl; (apply OpP.load; exact kEv; exact HasAt.base hb4))
  ((first | refine kAjB 5 ?_ | refine kAjS 5 ?_); (first | refine kAjB 6 ?_ | refine kAjS 6 ?_); (first | refine kAjB 7 ?_ | refine kAjS 7 ?_))
  (apply AJ.pur (i := 8); exact rfl; exact rfl; exact rfl; exact rfl; exact rfl; exact rfl; exact rfl; exact rfl; exact rfl; (apply OpP.indexAddr; exact kEv; exact kEv; exact hlt2))
  (apply AJ.pur (i := 9); exact rfl; exact rfl; exact rfl; exact rfl; exact rfl; exact rfl; exact rfl; exact rfl; exact rfl; (apply OpP.load; exact kEv; exact HasAt.base hb5))
  (refine AJ.loud1 (i := 10) (by kernel_rfl) (by kernel_rfl) rfl (by kernel_rfl) (by kernel_rfl) rfl rfl rfl rfl rfl rfl (OpS.callIs (by exact kEv) inferInstance (by exact kEvl) hLi) ?_ ?_)
  · rintro _ _ ⟨rfl, rfl⟩
    refine ⟨by exact kGives, ?_⟩
    ((first | refine kAjB 11 ?_ | refine kAjS 11 ?_))
    (refine AJ.done (by kernel_rfl) (by kernel_rfl) rfl (by kernel_rfl) ?_)
    refine kAutoB ?_
    cases hx : decide ((a.arrays[i]'hlt') = (b.arrays[i]'hlt2))
    · refine kAutoB ?_
      refine XJ.ret1 rfl rfl [] (by exact kGives) ⟨?_, rfl⟩
      rw [eqMem, decide_eq_false (fun e : a.arrays = b.arrays => of_decide_eq_false hx (by simp only [e])), Bool.and_false]; rfl
    · refine kAutoB ?_
      rw [i64_up i (by omega)]
      exact XJ.round (i + 1) ⟨by omega, take_step hlt' hlt2 he (of_decide_eq_true hx)⟩ (by omega) (by exact kEsub) (by exact kGives)
  · rintro _ _ h; exact h.elim
def sameB (r s : JobRes) (all : Bool) : Bool := eqMem r.mem s.mem && decide (r.out = s.out) && ((r.read : Int) == (s.read : Int)) && (r.err == s.err) && (!all || ((r.steps : Int) == (s.steps : Int)))
theorem same_spec (w0 : World) (us vs : List Value) (r s : JobRes) (hr : ResR w0 us r) (hs : ResR w0 vs s) (hl : MemL r.mem) (ho : r.out.length ≤ maxLen) (all : Bool) :
    Spec Tryz.prog w0 22 #[.agg us.toArray, .agg vs.toArray, .bool all] [] (Is (.bool (sameB r s all))) := by
  obtain ⟨u1, u2, u3, rfl, ha1, ha2, ha3⟩ := hr
  obtain ⟨v1, v2, v3, rfl, hb1, hb2, hb3⟩ := hs
  have hE := Equal_spec w0 [u1, u2] [v1, v2] r.mem s.mem ⟨u1, u2, rfl, ha1, ha2⟩ ⟨v1, v2, rfl, hb1, hb2⟩ hl
  have hO := outputs_spec w0 u3 v3 r.out s.out ha3 hb3 ho
  refine Spec.enter (args := [_, _, _]) Tryz.func22 rfl rfl rfl (fun F => ?_)
  refine kAutoB ?_
  (apply RL.boxR; exact kEv; exact rfl; intro b3)
  (apply RL.boxR; exact kEv; exact rfl; intro b4)
  refine kAutoB ?_
  (apply RL.callIs; exact kEv; exact inferInstance; exact kEvl; exact hE; exact rfl)
  cases e1 : eqMem r.mem s.mem
  · refine kAutoB ?_
    refine XJ.ret1 rfl rfl [] (by exact kGives) ⟨?_, rfl⟩
    rw [sameB, e1]; rfl
  refine kAutoB ?_
  (apply RL.callIs; exact kEv; exact inferInstance; exact kEvl; exact hO; exact rfl)
  cases e2 : decide (r.out = s.out)
  · refine kAutoB ?_
    refine XJ.ret1 rfl rfl [] (by exact kGives) ⟨?_, rfl⟩
    rw [sameB, e1, e2]; rfl
  refine kAutoB ?_
  cases e3 : ((r.read : Int) == (s.read : Int))
  · refine kAutoB ?_
    refine XJ.ret1 rfl rfl [] (by exact kGives) ⟨?_, rfl⟩
    rw [sameB, e1, e2, e3]; rfl
  refine kAutoB ?_
  cases e4 : (r.err == s.err)
  · refine kAutoB ?_
    refine XJ.ret1 rfl rfl [] (by exact kGives) ⟨?_, rfl⟩
    rw [sameB, e1, e2, e3, e4]; rfl
  refine kAutoB ?_
  cases all
  · refine kAutoB ?_
    refine XJ.ret1 rfl rfl [] (by exact kGives) ⟨?_, rfl⟩
    rw [sameB, e1, e2, e3, e4]; rfl
  · refine kAutoB ?_
    refine XJ.ret1 rfl rfl [] (by exact kGives) ⟨?_, rfl⟩
    rw [sameB, e1, e2, e3, e4]; rfl
end Go.Proofs.YtgmapenlgammfaaGreatDoor
