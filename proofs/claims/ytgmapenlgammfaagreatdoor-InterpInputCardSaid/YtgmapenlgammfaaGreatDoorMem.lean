/- Lists of numbers, lists of such lists: as they lie in the base, and as a function owns them. -/
import Derived.Test.YtgmapenlgammfaaGreatDoorCheck
import Derived.Laws.MakeOwn
set_option linter.all false
namespace Go.Proofs.YtgmapenlgammfaaGreatDoor
open Go

def intV (x : Int) : Value := .int .i32 x
/-- A slice of numbers in the base. -/
def IntsR (w : World) (v : Value) (l : List Int) : Prop := ∃ A c, v = .slice A l.length c ∧ l.length ≤ c ∧ RowsB w 1 A ((l.map intV).map fun u => [u])
/-- A slice of slices of numbers in the base. -/
def MatR (w : World) (v : Value) (m : List (List Int)) : Prop := ∃ A c, ∃ vs : List Value, v = .slice A m.length c ∧ m.length ≤ c ∧ vs.length = m.length ∧ RowsB w 1 A (vs.map fun u => [u]) ∧ ∀ (i : Nat) (l : List Int) (u : Value), m[i]? = some l → vs[i]? = some u → IntsR w u l
def CubR (w : World) (v : Value) (q : List (List (List Int))) : Prop := ∃ A c, ∃ vs : List Value, v = .slice A q.length c ∧ q.length ≤ c ∧ vs.length = q.length ∧ RowsB w 1 A (vs.map fun u => [u]) ∧ ∀ (i : Nat) (m : List (List Int)) (u : Value), q[i]? = some m → vs[i]? = some u → MatR w u m
theorem IntsR.up {w0 w : World} {v : Value} {l : List Int} (h : IntsR w0 v l) (k : Go.RowKit.Below w0.heap.size w0 w) : IntsR w v l := by
  obtain ⟨A, c, h1, h2, h3⟩ := h
  exact ⟨A, c, h1, h2, h3.up k⟩
theorem MatR.up {w0 w : World} {v : Value} {m : List (List Int)} (h : MatR w0 v m) (k : Go.RowKit.Below w0.heap.size w0 w) : MatR w v m := by
  obtain ⟨A, c, vs, h1, h2, h3, h4, h5⟩ := h
  exact ⟨A, c, vs, h1, h2, h3, h4.up k, fun i l u e1 e2 => (h5 i l u e1 e2).up k⟩
theorem CubR.up {w0 w : World} {v : Value} {m : List (List (List Int))} (h : CubR w0 v m) (k : Go.RowKit.Below w0.heap.size w0 w) : CubR w v m := by
  obtain ⟨A, c, vs, h1, h2, h3, h4, h5⟩ := h
  exact ⟨A, c, vs, h1, h2, h3, h4.up k, fun i l u e1 e2 => (h5 i l u e1 e2).up k⟩
/-- The memory of a program. -/
structure Mem where
  arrays : List (List (List Int))
  shared : List (List Int)
def MemR (w : World) (cs : List Value) (m : Mem) : Prop := ∃ u v, cs = [u, v] ∧ CubR w u m.arrays ∧ MatR w v m.shared

section
attribute [local semireducible] HasAt Base
theorem base_src {w0 : World} {M : List HProp} {A : Option Addr} {n c : Nat} {xs : List Value} (hl : xs.length = n) (h1 : ∀ u ∈ xs, u.oneCell' = true) (h : RowsB w0 1 A (xs.map fun u => [u])) : Src w0 M 1 (.slice A n c) n xs := by
  refine ⟨by omega, h1, ?_⟩
  rcases Nat.eq_zero_or_pos n with h0 | h0
  · subst h0; exact .inl ⟨rfl, _, _, rfl⟩
  · obtain ⟨b, o, e, _⟩ := h 0 [xs[0]'(by omega)] (by simp)
    subst e
    refine .inr ⟨b, o, c, rfl, ?_⟩
    intro w _ _ s j v hv
    obtain ⟨b', o', e', _, hb⟩ := h j [v] (by simp [hv])
    cases e'
    have := cell_base s (hb 0 v rfl)
    simpa using this
end
/-- Lists of numbers, each owned. -/
def innerM : List Value → List (List Int) → List HProp
  | u :: us, l :: ls => row 21 1 u l.length (l.map intV) :: innerM us ls
  | _, _ => []
theorem innerM_snoc : ∀ (us : List Value) (ls : List (List Int)) (u : Value) (l : List Int), us.length = ls.length → innerM (us ++ [u]) (ls ++ [l]) = innerM us ls ++ [row 21 1 u l.length (l.map intV)]
  | [], [], u, l, _ => rfl
  | [], _ :: _, _, _, h => by simp at h
  | _ :: _, [], _, _, h => by simp at h
  | a :: us, b :: ls, u, l, h => by
    simp only [List.cons_append, innerM]
    rw [innerM_snoc us ls u l (by simpa using h)]
section
attribute [local semireducible] Gives
theorem Gives.move {A : HProp} {X F : List HProp} : Gives (A :: (X ++ F)) ((X ++ [A]) ++ F) := fun h s => by
  refine star.perm ?_ s
  rw [List.append_assoc]
  exact List.perm_middle.symm
end
theorem oneInt (l : List Int) : ∀ u ∈ l.map intV, u.oneCell' = true := by
  intro u hu
  obtain ⟨x, _, rfl⟩ := List.mem_map.1 hu
  rfl
theorem copied_spec (w0 : World) (v : Value) (m : List (List Int)) (hR : MatR w0 v m) (hm : m.length ≤ 1000000000) (hl : ∀ l ∈ m, l.length ≤ 1000000000) :
    Spec Tryz.prog w0 47 #[v] [] (Ret (fun u N => ∃ A c us, u = .slice A m.length c ∧ us.length = m.length ∧ N = row 30 1 u m.length us :: innerM us m) noP) := by
  obtain ⟨A, c, vs, rfl, hc, hvl, hrows, hins⟩ := hR
  refine Spec.enter (args := [_]) Tryz.func47 rfl rfl rfl (fun F => ?_)
  refine kAutoB ?_
  refine CJ.gives (row_nil 30 1) ?_
  refine CJ.loop (σ := Nat × Option Addr × Nat × List Value) (fun s => s.1 ≤ m.length ∧ s.2.2.2.length = s.1) (fun s => [(8, .int .i64 (s.1 : Int)), (6, .slice A m.length c), (7, .int .i64 m.length), (3, .slice s.2.1 s.1 s.2.2.1)])
    (fun s => row 30 1 (.slice s.2.1 s.1 s.2.2.1) s.1 s.2.2.2 :: (innerM s.2.2.2 (m.take s.1) ++ F)) (fun s => m.length - s.1) (0, none, 0, []) ⟨Nat.zero_le _, rfl⟩ (by exact kEsub) (by exact kGives) ?_
  rintro ⟨i, Ao, co, us⟩ ⟨hi, hus⟩
  simp only at hi hus
  refine kAutoB ?_
  cases hlt : decide ((i : Int) < (m.length : Int))
  · have hge : i = m.length := by have := of_decide_eq_false hlt; omega
    subst hge
    refine kAutoB ?_
    refine XJ.ret1 rfl rfl (row 30 1 (.slice Ao m.length co) m.length us :: innerM us m) ?_ ⟨Ao, co, us, rfl, hus, rfl⟩
    simp only [List.take_length]
    exact Gives.refl _
  · have hlt' : i < m.length := by have := of_decide_eq_true hlt; omega
    obtain ⟨b, o, e, hrl, hb⟩ := hrows.at_ i (by simpa using (by omega : i < vs.length))
    subst e
    simp only [List.getElem_map] at hb
    obtain ⟨A1, c1, hv1, hc1, hr1⟩ := hins i m[i] (vs[i]'(by omega)) (by simp [hlt']) (by simp [show i < vs.length by omega])
    rw [hv1] at hb
    have hli := hl _ (List.getElem_mem hlt')
    refine kAutoB ?_
    apply RL.pur; (apply OpP.indexAddr; exact kEv; exact kEv; exact hlt'); exact rfl
    apply RL.pur; (apply OpP.load; exact kEv; exact HasAt.base hb); exact rfl
    refine kAutoB ?_
    (apply RL.buildSlice; exact rfl; exact kEvl; exact rfl; (intro w; kernel_rfl); exact rfl; intro b2)
    refine RL.gives (row_of_cel (n := 0) (sz := 1) rfl (by simp) (by decide) _) ?_
    refine kAutoB ?_
    refine RL.append (by exact kEv) (by exact kEv) (Takes.here _ _) (fun h _ => base_src (by simp) (oneInt m[i]) hr1) (by simp only [maxLen]; omega) (by omega) rfl (fun A2 c2 => ?_)
    refine kAutoB ?_
    (apply RL.buildSlice; exact rfl; exact kEvl; exact rfl; (intro w; kernel_rfl); exact rfl; intro b3)
    rw [Nat.zero_add]
    rw [List.nil_append]
    refine RL.append (by exact kEv) (by exact kEv) (by exact kTake) (fun h _ => ⟨rfl, (fun u hu => by simp at hu; subst hu; rfl), .inr ⟨_, _, _, rfl, HasAt.pt (Takes.here _ _) atAll⟩⟩) (m := 1) (by simp only [maxLen]; omega) (by omega) rfl (fun A4 c4 => ?_)
    refine kAutoB ?_
    rw [i64_succ i (by omega)]
    refine XJ.round (i + 1, A4, c4, us ++ [.slice A2 m[i].length c2]) ⟨by simp only; omega, by simp [hus]⟩ (by simp only; omega) (by exact kEsub) ?_
    simp only
    rw [List.take_succ_eq_append_getElem hlt', innerM_snoc us (m.take i) _ m[i] (by simp; omega)]
    exact Gives.cons (Takes.here _ _) (Gives.drop Gives.move)
end Go.Proofs.YtgmapenlgammfaaGreatDoor
