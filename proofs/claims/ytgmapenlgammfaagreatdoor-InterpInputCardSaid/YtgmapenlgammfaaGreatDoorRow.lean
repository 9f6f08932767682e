/- Slices that a function owns: rows; append; what may be read by all; sets as maps. Plain lemmas, no statement of the program. -/
import Derived.Test.YtgmapenlgammfaaGreatDoorMap
import Derived.Laws.AppendOwn
import Derived.Laws.OwnMore
set_option linter.all false
namespace Go.Proofs.YtgmapenlgammfaaGreatDoor
open Go Go.RowKit
attribute [local semireducible] Takes Gives Ev XJ CJ RL Spec pt ro OpP OpS HasAt HasMap mp rmp

class AppT (P : Program) (T : TypeId) (E sz bytes : outParam Nat) (zc : outParam (List Value)) : Prop where
  ex : ∃ i z, P.underlying T = some (.slice E) ∧ P.info? E = some i ∧ i.zero = some z ∧ i.size = sz ∧ i.bytes = bytes ∧ z.cells = zc.toArray ∧ zc.length = sz ∧ 0 < sz
def appB (P : Program) (T : TypeId) : Option (Nat × Nat × Nat × List Value) := match P.underlying T with
  | some (.slice E) => match P.info? E with
    | some i => match i.zero with
      | some z => some (E, i.size, i.bytes, z.cells.toList)
      | none => none
    | none => none
  | _ => none
theorem AppT.of {P : Program} {T E sz bytes : Nat} {zc : List Value} (h : appB P T = some (E, sz, bytes, zc)) (hz : Nat.beq zc.length sz = true) (h0 : Nat.blt 0 sz = true) : AppT P T E sz bytes zc := by
  unfold appB at h
  cases hu : P.underlying T with
  | none => rw [hu] at h; cases h
  | some d =>
    rw [hu] at h
    cases d <;> try (cases h; done)
    rename_i e
    simp only at h
    cases hi : P.info? e with
    | none => rw [hi] at h; cases h
    | some i =>
      rw [hi] at h
      simp only at h
      cases hzz : i.zero with
      | none => rw [hzz] at h; cases h
      | some z =>
        rw [hzz] at h
        simp only [Option.some.injEq, Prod.mk.injEq] at h
        obtain ⟨rfl, rfl, rfl, rfl⟩ := h
        exact ⟨i, z, hu, hi, hzz, rfl, rfl, by simp, Nat.eq_of_beq_eq_true hz, by simpa [Nat.blt_eq] using h0⟩

/-! ### what may be read by all, and what is read-only from here on -/
def roPart (h : Frag) : Frag := fun i => match h i with
  | some (.ro o) => some (.ro o)
  | _ => none
def Pers (A : HProp) : Prop := ∀ h, A h → A (roPart h)
theorem roPart_le (h : Frag) : Fle (roPart h) h := by
  intro i c e
  unfold roPart at e
  split at e
  · rename_i o ho; rw [ho]; exact e
  · cases e
theorem Takes.pers {A : HProp} {M : List HProp} (p : Pers A) : Takes (A :: M) [A] (A :: M) := by
  rintro h ⟨h1, h2, l1, l2, d, a, m⟩
  refine ⟨roPart h1, h, (roPart_le h1).trans l1, Fle.refl h, ?_, p h1 a, ⟨h1, h2, l1, l2, d, a, m⟩⟩
  intro i o
  constructor
  · intro e
    unfold roPart at e
    split at e <;> cases e
  · intro e
    cases x : roPart h1 i with
    | none => rfl
    | some c =>
      exfalso
      have h3 := l1 i c (roPart_le h1 i c x)
      rw [e] at h3
      unfold roPart at x
      split at x
      · cases x; cases h3
      · cases x
theorem Pers.ro {b : Nat} {o : Obj} : Pers (Go.Proofs.YtgmapenlgammfaaGreatDoor.ro b o) := by
  intro h e
  have e' : h b = some (.ro o) := e
  show roPart h b = _
  unfold roPart
  rw [e']
def toRo (h : Frag) : Frag := fun i => (h i).map fun c => .ro c.obj
def Frz (A B : HProp) : Prop := ∀ h, A h → B (toRo h)
theorem Frz.star {w0 w : World} {h : Frag} {A B : HProp} {M : List HProp} (f : Frz A B) (s : Sat w0 w h) (t : star (A :: M) h) : ∃ h', star (B :: M) h' ∧ Sat w0 w h' := by
  obtain ⟨h1, h2, l1, l2, d, a, m⟩ := t
  refine ⟨fun i => (toRo h1 i).or (h2 i), ⟨toRo h1, h2, ?_, ?_, ?_, f h1 a, m⟩, ?_⟩
  · intro i c e; simp [e]
  · intro i c e
    cases x : h1 i with
    | none => simp [toRo, x, e]
    | some y =>
      have hy := l1 i y x
      have hc := l2 i c e
      rw [hy] at hc
      injection hc with hc
      subst hc
      cases y with
      | ro o => simp [toRo, x, Cel.obj]
      | rw o => have := (d i o).1 x; rw [e] at this; cases this
  · intro i o
    constructor
    · intro e
      unfold toRo at e
      cases x : h1 i with
      | none => rw [x] at e; cases e
      | some y => rw [x] at e; simp at e
    · intro e
      have := (d i o).2 e
      simp [toRo, this]
  · refine ⟨s.os, s.tape, s.output, s.size, s.base, ?_⟩
    intro i c e
    cases x : h1 i with
    | none =>
      simp [toRo, x] at e
      exact s.own i c (l2 i c e)
    | some y =>
      simp [toRo, x] at e
      subst e
      exact s.own i y (l1 i y x)
section
variable {P : Program} {w0 : World} {n : Nat} {ops : Array Oper} {Q : Exit → Act → World → Prop} {L : Env} {M : List HProp} {A B : HProp}
theorem CJ.frz {c : Code} {M' : List HProp} (g : Takes M [A] M') (f : Frz A B) (k : CJ P w0 n c Q L (B :: M')) : CJ P w0 n c Q L M := fun a w h s m t => by
  obtain ⟨h', m', t'⟩ := f.star t (g h m)
  exact k a w h' s m' t'
theorem RL.frz {l : List Oper} {M' : List HProp} (g : Takes M [A] M') (f : Frz A B) (k : RL P w0 n ops Q l L (B :: M')) : RL P w0 n ops Q l L M := fun a w h s m t => by
  obtain ⟨h', m', t'⟩ := f.star t (g h m)
  exact k a w h' s m' t'
theorem XJ.frz {e : Exit} {M' : List HProp} (g : Takes M [A] M') (f : Frz A B) (k : XJ w0 n e Q L (B :: M')) : XJ w0 n e Q L M := fun a w h s m t => by
  obtain ⟨h', m', t'⟩ := f.star t (g h m)
  exact k a w h' s m' t'
end
theorem Frz.mp {κ : Type} [DecidableEq κ] {enc : κ → Value} {r : Nat} {m : κ → Option Value} : Frz (Go.Proofs.YtgmapenlgammfaaGreatDoor.mp enc r m) (Go.Proofs.YtgmapenlgammfaaGreatDoor.rmp enc r m) := by
  rintro h ⟨es, clk, e, mi⟩
  exact ⟨es, clk, by simp [toRo, e, Cel.obj], mi⟩
theorem Pers.rmp {κ : Type} [DecidableEq κ] {enc : κ → Value} {r : Nat} {m : κ → Option Value} : Pers (Go.Proofs.YtgmapenlgammfaaGreatDoor.rmp enc r m) := by
  rintro h ⟨es, clk, e, mi⟩
  exact ⟨es, clk, by unfold roPart; rw [e], mi⟩
theorem Frz.pt {b : Nat} {o : Obj} : Frz (Go.Proofs.YtgmapenlgammfaaGreatDoor.pt b o) (Go.Proofs.YtgmapenlgammfaaGreatDoor.ro b o) := fun h e => by
  have e' : h b = some (.rw o) := e
  show toRo h b = _
  simp [toRo, e', Cel.obj]

/-! ### rows -/
def row (E sz : Nat) (v : Value) (n : Nat) (xs : List Value) : HProp := fun h =>
  xs.length = n * sz ∧ (∀ u ∈ xs, u.oneCell' = true) ∧ ((v = .slice none 0 0 ∧ n = 0) ∨ ∃ g cap cur, v = .slice (some ⟨g, 0, none⟩) n cap ∧ h g = some (.rw (.cells (List.toArray cur) E (0, 0))) ∧ n ≤ cap ∧ cap ≤ maxLen ∧ cur.length = cap * sz ∧ cur.take (n * sz) = xs)
def rrow (E sz : Nat) (v : Value) (n : Nat) (xs : List Value) : HProp := fun h =>
  xs.length = n * sz ∧ (∀ u ∈ xs, u.oneCell' = true) ∧ ((v = .slice none 0 0 ∧ n = 0) ∨ ∃ g cap cur, v = .slice (some ⟨g, 0, none⟩) n cap ∧ h g = some (.ro (.cells (List.toArray cur) E (0, 0))) ∧ n ≤ cap ∧ cap ≤ maxLen ∧ cur.length = cap * sz ∧ cur.take (n * sz) = xs)
theorem Frz.row {E sz : Nat} {v : Value} {n : Nat} {xs : List Value} : Frz (Go.Proofs.YtgmapenlgammfaaGreatDoor.row E sz v n xs) (Go.Proofs.YtgmapenlgammfaaGreatDoor.rrow E sz v n xs) := by
  rintro h ⟨h1, h2, h3⟩
  refine ⟨h1, h2, h3.imp id ?_⟩
  rintro ⟨g, cap, cur, e1, e2, e3⟩
  exact ⟨g, cap, cur, e1, by simp [toRo, e2, Cel.obj], e3⟩
theorem Pers.rrow {E sz : Nat} {v : Value} {n : Nat} {xs : List Value} : Pers (Go.Proofs.YtgmapenlgammfaaGreatDoor.rrow E sz v n xs) := by
  rintro h ⟨h1, h2, h3⟩
  refine ⟨h1, h2, h3.imp id ?_⟩
  rintro ⟨g, cap, cur, e1, e2, e3⟩
  exact ⟨g, cap, cur, e1, by unfold roPart; rw [e2], e3⟩
theorem row_nil {M : List HProp} (E sz : Nat) : Gives M (row E sz (.slice none 0 0) 0 [] :: M) := fun h m =>
  ⟨fun _ => none, h, (fun _ _ e => by cases e), Fle.refl h, fun i o => ⟨(fun e => by cases e), fun _ => rfl⟩, ⟨by simp, by simp, .inl ⟨rfl, rfl⟩⟩, m⟩
theorem rrow_nil {M : List HProp} (E sz : Nat) : Gives M (rrow E sz (.slice none 0 0) 0 [] :: M) := fun h m =>
  ⟨fun _ => none, h, (fun _ _ e => by cases e), Fle.refl h, fun i o => ⟨(fun e => by cases e), fun _ => rfl⟩, ⟨by simp, by simp, .inl ⟨rfl, rfl⟩⟩, m⟩
theorem row_of_cel {E sz b n : Nat} {cs : List Value} (hl : cs.length = n * sz) (h1 : ∀ u ∈ cs, u.oneCell' = true) (hn : n ≤ maxLen) (M : List HProp) : Gives (cel b E cs :: M) (row E sz (.slice (some ⟨b, 0, none⟩) n n) n cs :: M) := by
  rintro h ⟨h1', h2, l1, l2, d, a, m⟩
  exact ⟨h1', h2, l1, l2, d, ⟨hl, h1, .inr ⟨b, n, cs, rfl, a, Nat.le_refl _, hn, hl, by rw [← hl, List.take_length]⟩⟩, m⟩
theorem cel_of_row {E sz b n : Nat} {cs : List Value} {M : List HProp} {h : Frag} (s : star (row E sz (.slice (some ⟨b, 0, none⟩) n n) n cs :: M) h) : star (cel b E cs :: M) h := by
  obtain ⟨h1, h2, l1, l2, d, ⟨e1, e2, e3⟩, m⟩ := s
  rcases e3 with ⟨e, _⟩ | ⟨g, cap, cur, e, a, _, _, hc, ht⟩
  · cases e
  · simp only [Value.slice.injEq, Option.some.injEq, Addr.mk.injEq, and_true, true_and] at e
    obtain ⟨rfl, rfl⟩ := e
    rw [← hc, List.take_length] at ht
    subst ht
    exact ⟨h1, h2, l1, l2, d, a, m⟩
/-- The shape of a row's value. -/
theorem row_shape {E sz : Nat} {v : Value} {n : Nat} {xs : List Value} {M : List HProp} {h : Frag} (s : star (row E sz v n xs :: M) h) : ∃ A c, v = .slice A n c := by
  obtain ⟨h1, h2, l1, l2, d, ⟨e1, e2, e3⟩, m⟩ := s
  rcases e3 with ⟨e, e'⟩ | ⟨g, cap, cur, e, _⟩
  · subst e'; exact ⟨_, _, e⟩
  · exact ⟨_, _, e⟩
theorem row_has {w0 : World} {E sz b o n c : Nat} {xs : List Value} {M M' : List HProp} (t : Takes M [row E sz (.slice (some ⟨b, o, none⟩) n c) n xs] M') : HasAt w0 M b o xs := by
  intro w h m s
  obtain ⟨h1, h2, l1, l2, d, ⟨e1, e2, e3⟩, _⟩ := t h m
  rcases e3 with ⟨e, _⟩ | ⟨g, cap, cur, e, a, _, _, hc, ht⟩
  · cases e
  · simp only [Value.slice.injEq, Option.some.injEq, Addr.mk.injEq, and_true, true_and] at e
    obtain ⟨⟨rfl, rfl⟩, rfl⟩ := e
    intro j v hv
    have hb := (s.own _ _ (l1 _ _ a)).2
    rw [← ht] at hv
    have hj : j < n * sz := by
      rcases Nat.lt_or_ge j (n * sz) with x | x
      · exact x
      · rw [List.getElem?_take_eq_none x] at hv; cases hv
    rw [List.getElem?_take_of_lt hj] at hv
    exact HasAt.heap (o := 0) (vs := cur) hb atAll j v hv
theorem rrow_has {w0 : World} {E sz b o n c : Nat} {xs : List Value} {M M' : List HProp} (t : Takes M [rrow E sz (.slice (some ⟨b, o, none⟩) n c) n xs] M') : HasAt w0 M b o xs := by
  intro w h m s
  obtain ⟨h1, h2, l1, l2, d, ⟨e1, e2, e3⟩, _⟩ := t h m
  rcases e3 with ⟨e, _⟩ | ⟨g, cap, cur, e, a, _, _, hc, ht⟩
  · cases e
  · simp only [Value.slice.injEq, Option.some.injEq, Addr.mk.injEq, and_true, true_and] at e
    obtain ⟨⟨rfl, rfl⟩, rfl⟩ := e
    intro j v hv
    have hb := (s.own _ _ (l1 _ _ a)).2
    rw [← ht] at hv
    have hj : j < n * sz := by
      rcases Nat.lt_or_ge j (n * sz) with x | x
      · exact x
      · rw [List.getElem?_take_eq_none x] at hv; cases hv
    rw [List.getElem?_take_of_lt hj] at hv
    exact HasAt.heap (o := 0) (vs := cur) hb atAll j v hv

theorem fresh_row {P : Program} {w0 w : World} {h : Frag} {M : List HProp} {E sz n m old : Nat} {z : Value} {xs news : List Value} (s : Sat w0 w h) (t : star M h) (hx : xs.length = n * sz) (hn : news.length = m * sz) (h1 : ∀ u ∈ xs ++ news, u.oneCell' = true) (hz : z.cells.size = sz) (h63 : n + m ≤ maxLen) :
    ∃ h', star (row E sz (.slice (some ⟨w.heap.size, 0, none⟩) (n + m) (grownCap w (n + m) old E)) (n + m) (xs ++ news) :: M) h' ∧ Sat w0 (w.drew.alloc (.cells (xs.toArray ++ news.toArray ++ Builtin.zeroCells z.cells (grownCap w (n + m) old E - (n + m))) E)) h' := by
  have hs : Sat w0 w.drew h := s.drawn _
  obtain ⟨h', ⟨h3, h4, l3, l4, d, a, m4⟩, s'⟩ := hs.push t (.cells (xs.toArray ++ news.toArray ++ Builtin.zeroCells z.cells (grownCap w (n + m) old E - (n + m))) E (0, 0))
  have hge := grownCap_ge w (n + m) old E
  refine ⟨h', ⟨h3, h4, l3, l4, d, ⟨?_, h1, .inr ⟨w.heap.size, _, xs ++ news ++ (Builtin.zeroCells z.cells (grownCap w (n + m) old E - (n + m))).toList, rfl, ?_, hge, grownCap_le_maxLen w _ _ _ h63, ?_, ?_⟩⟩, m4⟩, s'⟩
  · rw [List.length_append, hx, hn, Nat.add_mul]
  · have e : (xs ++ news ++ (Builtin.zeroCells z.cells (grownCap w (n + m) old E - (n + m))).toList).toArray = xs.toArray ++ news.toArray ++ Builtin.zeroCells z.cells (grownCap w (n + m) old E - (n + m)) := by
      apply Array.ext'
      simp
    rw [e]
    exact a
  · simp only [List.length_append, Array.length_toList, size_zeroCells, hz, hx, hn, ← Nat.add_mul]
    congr 1
    omega
  · rw [show (n + m) * sz = (xs ++ news).length by rw [List.length_append, hx, hn, Nat.add_mul]]
    exact List.take_left

section
variable {P : Program} {w0 : World} {L : Env} {M : List HProp} {d : Option Tmp} {T : TypeId} {p : String} {af : Array Edge} {g : Option (Nat × Bool)}
/-- What is appended: nothing, or cells that stand somewhere. -/
def Src (w0 : World) (M : List HProp) (sz : Nat) (x : Value) (m : Nat) (news : List Value) : Prop :=
  news.length = m * sz ∧ (∀ u ∈ news, u.oneCell' = true) ∧ ((m = 0 ∧ ∃ A c, x = .slice A 0 c) ∨ ∃ b o c, x = .slice (some ⟨b, o, none⟩) m c ∧ HasAt w0 M b o news)
theorem row_src {E sz : Nat} {v : Value} {n : Nat} {xs : List Value} {M' : List HProp} (t : Takes M [row E sz v n xs] M') {w : World} {h : Frag} (m : star M h) : Src w0 M sz v n xs := by
  obtain ⟨h1, h2, l1, l2, d, ⟨e1, e2, e3⟩, _⟩ := t h m
  refine ⟨e1, e2, ?_⟩
  rcases e3 with ⟨e, e'⟩ | ⟨g, cap, cur, e, _⟩
  · subst e'; exact .inl ⟨rfl, _, _, e⟩
  · subst e; exact .inr ⟨_, _, _, rfl, row_has t⟩
theorem rrow_src {E sz : Nat} {v : Value} {n : Nat} {xs : List Value} {M' : List HProp} (t : Takes M [rrow E sz v n xs] M') {h : Frag} (m : star M h) : Src w0 M sz v n xs := by
  obtain ⟨h1, h2, l1, l2, d, ⟨e1, e2, e3⟩, _⟩ := t h m
  refine ⟨e1, e2, ?_⟩
  rcases e3 with ⟨e, e'⟩ | ⟨g, cap, cur, e, _⟩
  · subst e'; exact .inl ⟨rfl, _, _, e⟩
  · subst e; exact .inr ⟨_, _, _, rfl, rrow_has t⟩
theorem run_append {t : TypeId} {E sz bytes : Nat} {zc : List Value} [k : AppT P t E sz bytes zc] {w : World} {h : Frag} {v x : Value} {n m : Nat} {xs news : List Value} {M' : List HProp} (sa : Sat w0 w h) (mm : star M h) (hm : Takes M [row E sz v n xs] M') (hx : Src w0 M sz x m news) (h63 : n + m ≤ maxLen) (hb : (n + m) * bytes ≤ 140737488355328) (ty : TypeId) :
    ∃ v' w' h', (Builtin.append_ #[t, t] ty #[v, x]).run P w = .ok v' w' ∧ (∃ A c, v' = .slice A (n + m) c) ∧ star (row E sz v' (n + m) (xs ++ news) :: M') h' ∧ Sat w0 w' h' := by
  obtain ⟨i, z, ht, hi, hz, hsz, hby, hzc, hzl, h0⟩ := k.ex
  subst hsz hby
  have hzs : z.cells.size = i.size := by rw [hzc]; simpa using hzl
  have tk := hm h mm
  obtain ⟨hl, h1, hcase⟩ := hx
  have tk' := tk
  obtain ⟨f1, f2, l1, l2, dd, ⟨e1, e2, e3⟩, m2⟩ := tk'
  have hall : ∀ u ∈ xs ++ news, u.oneCell' = true := by
    intro u hu
    rcases List.mem_append.1 hu with hu | hu
    · exact e2 u hu
    · exact h1 u hu
  rcases hcase with ⟨rfl, A', c', rfl⟩ | ⟨b, o, c, rfl, hhas⟩
  · have hn : news = [] := List.eq_nil_of_length_eq_zero (by simpa using hl)
    subst hn
    refine ⟨v, w, h, ?_, ?_, by simpa using tk, sa⟩
    · rcases e3 with ⟨rfl, rfl⟩ | ⟨g', cap, cur, rfl, _, hnc, _⟩
      · cases A' <;> simp [Builtin.append_, run_underlying ht, sizeOf, typeInfo, hi, Builtin.lenOf, Builtin.firstCells, loadCells, loadCellsFrom]
      · cases A' <;> simp [Builtin.append_, run_underlying ht, sizeOf, typeInfo, hi, Builtin.lenOf, Builtin.firstCells, hnc, storeCells, loadCells, loadCellsFrom]
    · exact row_shape tk
  · have hcells : ∀ j u, news[j]? = some u → w.cell? ((⟨b, o, none⟩ : Addr).add j) = some u := by
      intro j u hu
      rw [add_plain']
      exact hhas w h mm sa j u hu
    rcases e3 with ⟨rfl, rfl⟩ | ⟨g', cap, cur, rfl, ha, hnc, hcm, hcs, htake⟩
    · have hxs : xs = [] := List.eq_nil_of_length_eq_zero (by simpa using e1)
      subst hxs
      by_cases hm0 : m = 0
      · subst hm0
        have hn : news = [] := List.eq_nil_of_length_eq_zero (by simpa using hl)
        subst hn
        refine ⟨_, w, h, ?_, ⟨_, _, rfl⟩, by simpa using tk, sa⟩
        simp [Builtin.append_, run_underlying ht, sizeOf, typeInfo, hi, Builtin.lenOf, Builtin.firstCells, loadCells, loadCellsFrom]
      · have hr := run_append_nil (P := P) w t ty E i z ht hi hz ⟨b, o, none⟩ m c news hl hcells (by omega) (by simp only [maxLen] at h63; omega) (by have hb' := hb; simp only [Nat.zero_add] at hb'; omega)
        obtain ⟨h', t', s'⟩ := fresh_row (P := P) (E := E) (n := 0) (m := m) (old := 0) (z := z) (xs := []) (news := news) sa (Takes.gives hm (Gives.drop (Gives.refl M')) h mm) (by simp) hl (by simpa using h1) hzs (by omega)
        simp only [Nat.zero_add, List.nil_append] at t' s' ⊢
        exact ⟨_, _, h', hr, ⟨_, _, rfl⟩, t', by simpa using s'⟩
    · have hgb := (sa.own _ _ (l1 _ _ ha)).2
      by_cases hroom : n + m ≤ cap
      · have hfit : n * i.size + news.length ≤ cur.toArray.size := by
          rw [hl, ← Nat.add_mul]
          simp only [List.size_toArray]
          rw [hcs]
          exact Nat.mul_le_mul_right _ hroom
        have hr := run_append_room (P := P) w t ty E i ht hi g' n cap cur.toArray hgb ⟨b, o, none⟩ m c news hl hcells h1 hroom hfit
        have tc : star (cel g' E cur :: M') h := ⟨f1, f2, l1, l2, dd, ha, m2⟩
        obtain ⟨h', ⟨f3, f4, l3, l4, d3, a3, m4⟩, s'⟩ := sa.setRow (cs' := cur.take (n * i.size) ++ news ++ cur.drop (n * i.size + news.length)) tc
        refine ⟨_, _, h', hr, ⟨_, _, rfl⟩, ⟨f3, f4, l3, l4, d3, ⟨?_, hall, .inr ⟨g', cap, _, rfl, a3, hroom, hcm, ?_, ?_⟩⟩, m4⟩, s'⟩
        · rw [List.length_append, e1, hl, Nat.add_mul]
        · simp only [List.length_append, List.length_take, List.length_drop]
          have : n * i.size + news.length ≤ cur.length := by simpa using hfit
          omega
        · rw [htake, show (n + m) * i.size = (xs ++ news).length by rw [List.length_append, e1, hl, Nat.add_mul]]
          exact List.take_left
      · have holds : ∀ j u, xs[j]? = some u → w.cell? ((⟨g', 0, none⟩ : Addr).add j) = some u := by
          intro j u hu
          rw [add_plain']
          exact row_has (w0 := w0) hm w h mm sa j u hu
        have hr := run_append_grow (P := P) w t ty E i z ht hi hz ⟨g', 0, none⟩ n cap xs e1 holds ⟨b, o, none⟩ m c news hl hcells (by omega) (by simp only [maxLen] at h63; omega) (growslice_fits (by omega) hb)
        obtain ⟨h', t', s'⟩ := fresh_row (P := P) (E := E) (n := n) (m := m) (old := cap) (z := z) (xs := xs) (news := news) sa (Takes.gives hm (Gives.drop (Gives.refl M')) h mm) e1 hl hall hzs h63
        exact ⟨_, _, h', hr, ⟨_, _, rfl⟩, t', s'⟩
/-- Append to a slice of one's own. -/
theorem OpS.append {t : TypeId} {s x : Operand} {E sz bytes : Nat} {zc : List Value} [k : AppT P t E sz bytes zc] {v u : Value} {n m : Nat} {xs news : List Value} {M' : List HProp} (hs : Ev L s v) (hx : Ev L x u) (hm : Takes M [row E sz v n xs] M') (hn : ∀ h, star M h → Src w0 M sz u m news) (h63 : n + m ≤ maxLen) (hb : (n + m) * bytes ≤ 140737488355328) :
    OpS P w0 L M ⟨d, .call { callee := .builtin .append, args := #[s, x], argTypes := #[t, t] }, T, p, af, g⟩ (fun v' N => (∃ A c, v' = .slice A (n + m) c) ∧ N = row E sz v' (n + m) (xs ++ news) :: M') noP := fun q a w h st mm sa => by
  obtain ⟨v', w', h', hr, hA, t', s'⟩ := run_append (P := P) (t := t) sa mm hm (hn h mm) h63 hb T
  simp only [execOp, resolve, invoke, builtin, hs q a st, hx q a st, Sem.run_bind, Sem.run_pure, Result.andThen_ok, List.map_toArray, List.map_cons, List.map_nil, hr, ResS]
  exact ⟨_, h', ⟨hA, rfl⟩, t', s'⟩
/-- Append to a slice without room: a new one. -/
theorem OpS.appendNew {t : TypeId} {s x : Operand} {E sz bytes : Nat} {zc : List Value} [k : AppT P t E sz bytes zc] {v u : Value} {n m : Nat} {xs news : List Value} (hs : Ev L s v) (hx : Ev L x u) (hv : ∀ h, star M h → Src w0 M sz v n xs ∧ ∀ A l c, v = .slice A l c → c = l) (hn : ∀ h, star M h → Src w0 M sz u m news) (h0 : 0 < m) (h63 : n + m ≤ maxLen) (hb : (n + m) * bytes ≤ 140737488355328) :
    OpS P w0 L M ⟨d, .call { callee := .builtin .append, args := #[s, x], argTypes := #[t, t] }, T, p, af, g⟩ (fun v' N => (∃ A c, v' = .slice A (n + m) c) ∧ N = row E sz v' (n + m) (xs ++ news) :: M) noP := fun q a w h st mm sa => by
  obtain ⟨i, z, ht, hi, hz, hsz, hby, hzc, hzl, _⟩ := k.ex
  subst hsz hby
  have hzs : z.cells.size = i.size := by rw [hzc]; simpa using hzl
  obtain ⟨⟨e1, e2, e3⟩, hcap⟩ := hv h mm
  obtain ⟨hl, h1, hcase⟩ := hn h mm
  have hall : ∀ u ∈ xs ++ news, u.oneCell' = true := by
    intro u hu
    rcases List.mem_append.1 hu with hu | hu
    · exact e2 u hu
    · exact h1 u hu
  rcases hcase with ⟨rfl, _⟩ | ⟨b, o, c, rfl, hhas⟩
  · omega
  have hcells : ∀ j u, news[j]? = some u → w.cell? ((⟨b, o, none⟩ : Addr).add j) = some u := by
    intro j u hu
    rw [add_plain']
    exact hhas w h mm sa j u hu
  have key : ∃ v' w' h', (Builtin.append_ #[t, t] T #[v, .slice (some ⟨b, o, none⟩) m c]).run P w = .ok v' w' ∧ (∃ A c, v' = .slice A (n + m) c) ∧ star (row E i.size v' (n + m) (xs ++ news) :: M) h' ∧ Sat w0 w' h' := by
    rcases e3 with ⟨rfl, A', c', rfl⟩ | ⟨b', o', c', rfl, hhas'⟩
    · have hxs : xs = [] := List.eq_nil_of_length_eq_zero (by simpa using e1)
      subst hxs
      have hc0 := hcap _ _ _ rfl
      subst hc0
      cases A' with
      | some ad =>
        have hr := run_append_grow (P := P) w t T E i z ht hi hz ad 0 0 [] (by simp) (by simp) ⟨b, o, none⟩ m c news hl hcells (by omega) (by simp only [maxLen] at h63; omega) (growslice_fits (by omega) hb)
        obtain ⟨h', t', s'⟩ := fresh_row (P := P) (E := E) (n := 0) (m := m) (old := 0) (z := z) (xs := []) (news := news) sa mm (by simp) hl (by simpa using h1) hzs (by omega)
        exact ⟨_, _, h', hr, ⟨_, _, rfl⟩, t', s'⟩
      | none =>
      have hr := run_append_nil (P := P) w t T E i z ht hi hz ⟨b, o, none⟩ m c news hl hcells (by omega) (by simp only [maxLen] at h63; omega) (by have hb' := hb; simp only [Nat.zero_add] at hb'; omega)
      obtain ⟨h', t', s'⟩ := fresh_row (P := P) (E := E) (n := 0) (m := m) (old := 0) (z := z) (xs := []) (news := news) sa mm (by simp) hl (by simpa using h1) hzs (by omega)
      simp only [Nat.zero_add, List.nil_append] at t' s' ⊢
      exact ⟨_, _, h', hr, ⟨_, _, rfl⟩, t', by simpa using s'⟩
    · have hc := hcap _ _ _ rfl
      subst hc
      have holds : ∀ j u, xs[j]? = some u → w.cell? ((⟨b', o', none⟩ : Addr).add j) = some u := by
        intro j u hu
        rw [add_plain']
        exact hhas' w h mm sa j u hu
      have hr := run_append_grow (P := P) w t T E i z ht hi hz ⟨b', o', none⟩ c' c' xs e1 holds ⟨b, o, none⟩ m c news hl hcells (by omega) (by simp only [maxLen] at h63; omega) (growslice_fits (by omega) hb)
      obtain ⟨h', t', s'⟩ := fresh_row (P := P) (E := E) (n := c') (m := m) (old := c') (z := z) (xs := xs) (news := news) sa mm e1 hl hall hzs h63
      exact ⟨_, _, h', hr, ⟨_, _, rfl⟩, t', s'⟩
  obtain ⟨v', w', h', hr, hA, t', s'⟩ := key
  simp only [execOp, resolve, invoke, builtin, hs q a st, hx q a st, Sem.run_bind, Sem.run_pure, Result.andThen_ok, List.map_toArray, List.map_cons, List.map_nil, hr, ResS]
  exact ⟨_, h', ⟨hA, rfl⟩, t', s'⟩
end

/-! sets as maps -/
def setM (s : ByteArray → Bool) : ByteArray → Option Value := fun k => if s k then some (.bool true) else none
theorem setM_upd (s : ByteArray → Bool) (k : ByteArray) : upd (setM s) k (.bool true) = setM (fun j => decide (j = k) || s j) := by
  funext j
  unfold upd setM
  by_cases h : j = k
  · simp [h]
  · simp [h]
theorem setM_none : (fun _ => none : ByteArray → Option Value) = setM (fun _ => false) := by funext j; simp [setM]
section
variable {P : Program} {w0 : World} {L : Env} {M : List HProp} {d : Option Tmp} {T : TypeId} {p : String} {af : Array Edge} {g : Option (Nat × Bool)}
theorem OpP.lookupSet {t : TypeId} {K E : Nat} {x i : Operand} [q : MapT P t K E] [k : KeyT P K ByteArray Value.string] [zz : ZeroT P E (.bool false)] {r : Nat} {s : ByteArray → Bool} {y : ByteArray} (hx : Ev L x (.map (some r))) (hi : Ev L i (.string y)) (hm : HasMap w0 M Value.string r (setM s)) :
    OpP P w0 L M ⟨d, .lookup t x i false, T, p, af, g⟩ (.bool (s y)) := by
  have := OpP.lookup (P := P) (t := t) (z := .bool false) (d := d) (T := T) (p := p) (af := af) (g := g) hx hi hm
  have e : (setM s y).getD (.bool false) = .bool (s y) := by unfold setM; cases s y <;> rfl
  rw [e] at this
  exact this
theorem OpP.eqNilMap {t u : TypeId} {K E : Nat} {x y : Operand} [q : MapT P t K E] {r : Nat} (hx : Ev L x (.map (some r))) (hy : Ev L y (.map none)) : OpP P w0 L M ⟨d, .binOp .eql t x y u, T, p, af, g⟩ (.bool false) := fun n a w h s _ _ => by
  have e1 : (eqGuard .eql t x y (.map (some r)) (.map none)).run P w = .ok () w := by unfold eqGuard; rfl
  have e2 : (Op.equal t (.map (some r)) (.map none)).run P w = .ok false w := by
    unfold Op.equal
    rw [show Op.maxDepth = 9999 + 1 from rfl]
    unfold Op.equalIn
    simp only [Sem.run_bind, run_und q.und, Result.andThen_ok]
    rfl
  simp only [execOp, hx n a s, hy n a s, Sem.run_bind, e1, Result.andThen_ok, binOp, e2, Sem.run_pure]
theorem OpP.eqNilSlice {t u : TypeId} {E sz : Nat} {x y : Operand} [q : SliceT P t E sz] {A : Option Addr} {l c l2 c2 : Nat} (hx : Ev L x (.slice A l c)) (hy : Ev L y (.slice none l2 c2)) : OpP P w0 L M ⟨d, .binOp .eql t x y u, T, p, af, g⟩ (.bool A.isNone) := fun n a w h s _ _ => by
  have e1 : (eqGuard .eql t x y (.slice A l c) (.slice none l2 c2)).run P w = .ok () w := by unfold eqGuard; rfl
  have e2 : (Op.equal t (.slice A l c) (.slice none l2 c2)).run P w = .ok A.isNone w := by
    unfold Op.equal
    rw [show Op.maxDepth = 9999 + 1 from rfl]
    unfold Op.equalIn
    simp only [Sem.run_bind, run_und q.und, Result.andThen_ok]
    cases A <;> rfl
  simp only [execOp, hx n a s, hy n a s, Sem.run_bind, e1, Result.andThen_ok, binOp, e2, Sem.run_pure]
class ConcT (P : Program) (T : TypeId) : Prop where
  und : ∃ d, P.underlying T = some d ∧ ∀ ms, d ≠ .interface ms
theorem OpP.typeAssert {t t' : TypeId} {x : Operand} {v : Value} [q : ConcT P t] (hx : Ev L x (.iface t v)) : OpP P w0 L M ⟨d, .typeAssert x t' t false, T, p, af, g⟩ v := fun n a w h s _ _ => by
  obtain ⟨dd, h1, h2⟩ := q.und
  simp only [execOp, hx n a s, Instr.typeAssert, Sem.run_bind, run_und h1, Result.andThen_ok]
  cases dd <;> first | exact absurd rfl (h2 _) | simp
theorem OpP.clip {t : TypeId} {x y z : Operand} {E sz : Nat} [q : SliceT P t E sz] {A : Option Addr} {l c : Nat} (hx : Ev L x (.slice A l c)) (hy : Ev L y (.int .i64 (l : Int))) (hz : Ev L z (.int .i64 (l : Int))) (hc : l ≤ c) : OpP P w0 L M ⟨d, .slice t x none (some y) (some z), T, p, af, g⟩ (.slice A l l) := fun n a w h s _ _ => by
  have h0 : ∀ ad : Addr, ad.add 0 = ad := fun ad => by unfold Addr.add; split <;> simp_all
  have h1 : (l : Int) ≤ (c : Int) := by omega
  simp [execOp, hx n a s, hy n a s, hz n a s, Instr.sliceAt, Instr.slice, Instr.sliceBounds, Instr.sliceBound, run_und q.und, asIntOf, h1, q.sz, h0]
  omega
/-- The library's copy of a map. -/
class CloneT (P : Program) (k : FuncId) : Prop where
  run : ∀ t r es clk w, w.heap[r]? = some (.map es clk) → (callFunc k #[.iface t (.map (some r))]).run P w = .ok (.value (.iface t (.map (some w.heap.size)))) { w with heap := w.heap.push (.map es clk) }
theorem CloneT.of {P : Program} {k : FuncId} {fn : Func} (h1 : P.funcs[k]? = some fn) (h2 : (fn.name == "runtime.NumGoroutine") = false) (h3 : fn.body.isNone = true) (h4 : Extern.findNext fn = none) (h5 : Extern.find fn = some Extern.MapsClone.clone) : CloneT P k := ⟨fun t r es clk w hh => by
  have hg : (getObj r).run P w = .ok (.map es clk) w := by simp [getObj, Sem.run, hh]
  have hc : (Extern.MapsClone.clone #[.iface t (.map (some r))]).run P w = .ok (.iface t (.map (some w.heap.size))) { w with heap := w.heap.push (.map es clk) } := by
    have e : Extern.MapsClone.clone #[.iface t (.map (some r))] = (do
      let o ← getObj r
      match o with
      | .map entries clock => do pure (.iface t (.map (some (← newObj (.map entries clock)))))
      | _ => stuck "maps.clone: a map expected") := rfl
    rw [e, Sem.run_bind, hg]
    simp only [Result.andThen_ok, Sem.run_bind, newObj, Sem.run, Sem.run_pure, Sem.run_pure']
  simp only [callFunc, program, Sem.run_bind, Sem.run, Result.andThen_ok, h1, h2, h3, h4, h5, mark, if_true, if_false, Bool.false_eq_true, hc, Sem.run_pure, Sem.run_pure']⟩
theorem OpS.clone {f x : Operand} {k : FuncId} {t : TypeId} {r : Nat} {ts : Array TypeId} {m : ByteArray → Option Value} [c : CloneT P k] (hf : Ev L f (.func (.func k) #[] #[])) (hx : Ev L x (.iface t (.map (some r)))) (hm : HasMap w0 M Value.string r m) :
    OpS P w0 L M ⟨d, .call { callee := .value f, args := #[x], argTypes := ts }, T, p, af, g⟩ (fun v N => ∃ r', v = .iface t (.map (some r')) ∧ N = mp Value.string r' m :: M) noP := fun n a w h s mm sa => by
  obtain ⟨es, clk, hh, mi⟩ := hm w h mm sa
  have e : (execOp a.eval ⟨d, .call { callee := .value f, args := #[x], argTypes := ts }, T, p, af, g⟩).run P w = .ok (.value (.iface t (.map (some w.heap.size)))) { w with heap := w.heap.push (.map es clk) } := by
    simp [execOp, resolve, Deferred.ofValue, hf n a s, hx n a s, invoke, c.run t r es clk w hh]
  obtain ⟨h', ⟨h1, h2, l1, l2, dd, ha, m2⟩, s'⟩ := sa.push mm (.map es clk)
  rw [e]
  exact ⟨_, h', ⟨_, rfl, rfl⟩, ⟨h1, h2, l1, l2, dd, ⟨_, _, ha, mi⟩, m2⟩, s'⟩
end
attribute [irreducible] row rrow
end Go.Proofs.YtgmapenlgammfaaGreatDoor
