/- Memories that are owned, as memories of the base of what follows. -/
import Derived.Test.YtgmapenlgammfaaGreatDoorFits
import Derived.Test.YtgmapenlgammfaaGreatDoorJobM
set_option linter.all false
namespace Go.Proofs.YtgmapenlgammfaaGreatDoor
open Go
section
attribute [local semireducible] Takes Gives
theorem Takes.sub {A M M' F : List HProp} (k : Takes M A M') : Takes (M ++ F) A (M' ++ F) := fun h s => by
  obtain ⟨h1, h2, l1, l2, d, x, y⟩ := s.split
  have := star.join l1 l2 d (k _ x) y
  rwa [List.append_assoc] at this
end
theorem matM_R {w0 w : World} {h : Frag} {v : Value} {us : List Value} {m : List (List Int)} {M M' : List HProp} (hl : us.length = m.length) (t : Takes M (matM v us m) M') (mm : star M h) (s : Go.Proofs.YtgmapenlgammfaaGreatDoor.Sat w0 w h) : MatR w v m := by
  unfold Takes at t
  have m1 := t h mm
  have t1 : Takes (matM v us m ++ M') [row 30 1 v m.length us] (innerM us m ++ M') := Takes.here _ _
  have t1' := t1
  unfold Takes at t1'
  obtain ⟨A, c, rfl⟩ := row_shape (t1' h m1)
  obtain ⟨h1, h2⟩ := row_rows t1 m1 s
  refine ⟨A, c, us, rfl, h1, hl, h2, ?_⟩
  intro i l u e1 e2
  exact row_ints (M := matM (.slice A m.length c) us m ++ M') (Takes.there (innerM_take e2 e1 M')) m1 s
theorem cubM_take : ∀ (i : Nat) (vs : List Value) (uss : List (List Value)) (q : List (List (List Int))) (v : Value) (us : List Value) (m : List (List Int)), vs[i]? = some v → uss[i]? = some us → q[i]? = some m → (cubM vs uss q).Perm (matM v us m ++ cubM (vs.eraseIdx i) (uss.eraseIdx i) (q.eraseIdx i))
  | _, [], _, _, _, _, _, h, _, _ => by simp at h
  | _, _ :: _, [], _, _, _, _, _, h, _ => by simp at h
  | _, _ :: _, _ :: _, [], _, _, _, _, _, h => by simp at h
  | 0, a :: vs, b :: uss, c :: q, v, us, m, h1, h2, h3 => by
    simp at h1 h2 h3
    subst h1 h2 h3
    exact .refl _
  | i + 1, a :: vs, b :: uss, c :: q, v, us, m, h1, h2, h3 => by
    simp only [List.getElem?_cons_succ] at h1 h2 h3
    simp only [List.eraseIdx_cons_succ, cubM]
    refine ((cubM_take i vs uss q v us m h1 h2 h3).append_left _).trans ?_
    rw [← List.append_assoc, ← List.append_assoc]
    exact List.Perm.append_right _ List.perm_append_comm
section
attribute [local semireducible] Takes
theorem cubM_takes {i : Nat} {vs : List Value} {uss : List (List Value)} {q : List (List (List Int))} {v : Value} {us : List Value} {m : List (List Int)} (h1 : vs[i]? = some v) (h2 : uss[i]? = some us) (h3 : q[i]? = some m) (F : List HProp) : Takes (cubM vs uss q ++ F) (matM v us m) (cubM (vs.eraseIdx i) (uss.eraseIdx i) (q.eraseIdx i) ++ F) := fun h s => by
  rw [← List.append_assoc]
  exact star.perm ((cubM_take i vs uss q v us m h1 h2 h3).append_right F) s
end
theorem cubA_R {w0 w : World} {h : Frag} {v : Value} {vs : List Value} {uss : List (List Value)} {q : List (List (List Int))} {M M' : List HProp} (hl : Lens vs uss q) (t : Takes M (cubA v vs uss q) M') (mm : star M h) (s : Go.Proofs.YtgmapenlgammfaaGreatDoor.Sat w0 w h) : CubR w v q := by
  unfold Takes at t
  have m1 := t h mm
  have t1 : Takes (cubA v vs uss q ++ M') [row 27 1 v q.length vs] (cubM vs uss q ++ M') := Takes.here _ _
  have t1' := t1
  unfold Takes at t1'
  obtain ⟨A, c, rfl⟩ := row_shape (t1' h m1)
  obtain ⟨h1, h2⟩ := row_rows t1 m1 s
  refine ⟨A, c, vs, rfl, h1, hl.l1, h2, ?_⟩
  intro i m u e1 e2
  have h3 := hl.l2
  have hi : i < q.length := by
    rcases Nat.lt_or_ge i q.length with h | h
    · exact h
    · rw [List.getElem?_eq_none h] at e1; cases e1
  have e3 : uss[i]? = some (uss[i]'(by omega)) := by simp [show i < uss.length by omega]
  exact matM_R (M := cubA (.slice A q.length c) vs uss q ++ M') (hl.each i _ m e3 e1) (Takes.there1 (cubM_takes e2 e3 e1 M')) m1 s
theorem Lens.set {vs : List Value} {uss : List (List Value)} {q : List (List (List Int))} (h : Lens vs uss q) {t : Nat} {m m' : List (List Int)} (hm : q[t]? = some m) (hl : m'.length = m.length) : Lens vs uss (q.set t m') := by
  refine ⟨by simp [h.l1], by simp [h.l2], ?_⟩
  intro i us x h1 h2
  rw [List.getElem?_set] at h2
  by_cases hi : t = i
  · subst hi
    have hlt := (List.getElem?_eq_some_iff.1 hm).1
    simp [hlt] at h2
    subst h2
    rw [hl]
    exact h.each t us m h1 hm
  · rw [if_neg hi] at h2
    exact h.each i us x h1 h2
/-- A list of outputs in the base. -/
def OutsR (w : World) (v : Value) (l : List (Int × Int)) : Prop := ∃ A c, v = .slice A l.length c ∧ l.length ≤ c ∧ RowsB w 2 A (l.map fun p => [.int .i64 p.1, intV p.2])
/-- What a job comes to. -/
structure JobRes where
  mem : Mem
  out : List (Int × Int)
  read : Nat
  steps : Nat
  err : Int
def ResR (w : World) (cs : List Value) (r : JobRes) : Prop := ∃ u v o, cs = [u, v, o, .int .i64 r.read, .int .i64 r.steps, .int .i64 r.err] ∧ CubR w u r.mem.arrays ∧ MatR w v r.mem.shared ∧ OutsR w o r.out
theorem OutsR.up {w0 w : World} {v : Value} {l : List (Int × Int)} (h : OutsR w0 v l) (k : Go.RowKit.Below w0.heap.size w0 w) : OutsR w v l := by
  obtain ⟨A, c, h1, h2, h3⟩ := h
  exact ⟨A, c, h1, h2, h3.up k⟩
theorem ResR.up {w0 w : World} {cs : List Value} {r : JobRes} (h : ResR w0 cs r) (k : Go.RowKit.Below w0.heap.size w0 w) : ResR w cs r := by
  obtain ⟨u, v, o, h1, h2, h3, h4⟩ := h
  exact ⟨u, v, o, h1, h2.up k, h3.up k, h4.up k⟩
theorem MemR.up {w0 w : World} {cs : List Value} {m : Mem} (h : MemR w0 cs m) (k : Go.RowKit.Below w0.heap.size w0 w) : MemR w cs m := by
  obtain ⟨u, v, h1, h2, h3⟩ := h
  exact ⟨u, v, h1, h2.up k, h3.up k⟩
section
attribute [local semireducible] row Base
theorem row_outs {w0 w : World} {h : Frag} {M M' : List HProp} {E c : Nat} {A : Option Addr} {l : List (Int × Int)} (t : Takes M [row E 2 (.slice A l.length c) l.length (outCells l)] M') (mm : star M h) (s : Go.Proofs.YtgmapenlgammfaaGreatDoor.Sat w0 w h) : OutsR w (.slice A l.length c) l := by
  have tt := t
  unfold Takes at tt
  refine ⟨A, c, rfl, row_cap t mm, ?_⟩
  intro i r e
  rw [List.getElem?_map] at e
  obtain ⟨p, hp, rfl⟩ := Option.map_eq_some_iff.1 e
  have hi : i < l.length := by
    rcases Nat.lt_or_ge i l.length with h | h
    · exact h
    · rw [List.getElem?_eq_none h] at hp; cases hp
  obtain ⟨h1, h2, l1, l2, dd, ⟨e1, e2, e3⟩, m2⟩ := tt h mm
  rcases e3 with ⟨e, e'⟩ | ⟨g, cap, cur, e, a, _, _, hc, ht⟩
  · omega
  · simp only [Value.slice.injEq, true_and] at e
    obtain ⟨rfl, rfl⟩ := e
    refine ⟨g, 0, rfl, rfl, ?_⟩
    have hb := (s.own _ _ (l1 _ _ a)).2
    have hcell : ∀ (l : List (Int × Int)) (i j : Nat) p, l[i]? = some p → j < 2 → (outCells l)[i * 2 + j]? = ([Value.int .i64 p.1, intV p.2] : List Value)[j]? := by
      intro l
      induction l with
      | nil => intro i j p h; simp at h
      | cons x r ih =>
        intro i j p h hj
        rcases i with _ | i
        · simp at h
          subst h
          rcases j with _ | _ | j
          · rfl
          · rfl
          · omega
        · simp at h
          have := ih i j p h hj
          rw [← this]
          simp only [outCells, List.flatMap_cons]
          rw [List.getElem?_append_right (by simp; omega)]
          congr 1
          simp only [List.length_cons, List.length_nil]
          omega
    intro j u hu
    have hj : j < 2 := by
      rcases Nat.lt_or_ge j 2 with x | x
      · exact x
      · rw [List.getElem?_eq_none (by simpa using x)] at hu; cases hu
    have hx := hcell l i j p hp hj
    rw [hu, ← ht, List.getElem?_take_of_lt (by omega)] at hx
    have := HasAt.heap (o := 0) (vs := cur) hb atAll (i * 2 + j) u hx
    simpa [Nat.add_assoc] using this
end
section
attribute [local semireducible] Takes Gives
theorem Takes.head {a : HProp} {A M M' : List HProp} (k : Takes M (a :: A) M') : Takes M [a] (A ++ M') := fun h s => k h s
theorem Gives.reorg {A B R F : List HProp} : Gives (A ++ (R ++ (B ++ F))) ((A ++ B) ++ (R ++ F)) := fun h s => by
  refine star.perm ?_ s
  rw [List.append_assoc]
  refine List.Perm.append_left A ?_
  rw [← List.append_assoc, ← List.append_assoc]
  exact List.Perm.append_right F List.perm_append_comm
theorem Gives.reorgBack {A B R F : List HProp} : Gives ((A ++ B) ++ (R ++ F)) (A ++ (R ++ (B ++ F))) := fun h s => by
  refine star.perm ?_ s
  rw [List.append_assoc]
  refine List.Perm.append_left A ?_
  rw [← List.append_assoc, ← List.append_assoc]
  exact List.Perm.append_right F List.perm_append_comm
theorem Gives.under3 {a b c : HProp} {I Z : List HProp} : Gives (a :: b :: c :: (I ++ Z)) (I ++ (a :: b :: c :: Z)) := fun h s => by
  refine star.perm ?_ s
  exact ((List.perm_middle.trans ((List.perm_middle.trans (List.perm_middle.cons _)).cons _))).symm
attribute [local semireducible] row HasAt in
theorem row_at {w0 : World} {E b n c i : Nat} {xs : List Value} {x : Value} {M M' : List HProp} (t : Takes M [row E 1 (.slice (some ⟨b, 0, none⟩) n c) n xs] M') (hx : xs[i]? = some x) : HasAt w0 M b (0 + i * 1) [x] :=
  HasAt.sub (row_has t) (fun j v hv => by
    rcases j with _ | j
    · simp at hv; subst hv; exact ⟨i, by omega, hx⟩
    · simp at hv)
attribute [local semireducible] row in
theorem row_ptr {E n : Nat} {u : Value} {xs : List Value} {M M' : List HProp} {h : Frag} (t : Takes M [row E 1 u n xs] M') (m : star M h) (hl : 0 < n) : ∃ b c, u = .slice (some ⟨b, 0, none⟩) n c := by
  obtain ⟨h1, h2, l1, l2, dd, ⟨e1, e2, e3⟩, m2⟩ := t h m
  rcases e3 with ⟨e, e'⟩ | ⟨g, cap, cur, e, _⟩
  · omega
  · exact ⟨g, cap, e⟩
end
theorem innerM_append : ∀ (us vs : List Value) (a b : List (List Int)), us.length = a.length → innerM (us ++ vs) (a ++ b) = innerM us a ++ innerM vs b
  | [], vs, [], b, _ => rfl
  | [], _, _ :: _, _, h => by simp at h
  | _ :: _, _, [], _, h => by simp at h
  | u :: us, vs, x :: a, b, h => by
    simp only [List.cons_append, innerM]
    rw [innerM_append us vs a b (by simpa using h)]
end Go.Proofs.YtgmapenlgammfaaGreatDoor
