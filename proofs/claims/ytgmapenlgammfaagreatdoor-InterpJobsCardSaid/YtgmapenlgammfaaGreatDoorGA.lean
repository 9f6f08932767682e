import Derived.Below
import Derived.LoopN
import Derived.Orders
import Derived.Tactics
import Derived.WalkKit
import Derived.KernelRfl
import Derived.Laws.Strings
import Derived.Laws.Cells
import Derived.Laws.CopyRow
import Derived.Laws.Tables
import Derived.Laws.AppendOwn
import Derived.Laws.OwnMore
set_option linter.all false
/- A small separation logic over the model's runs of one goroutine: fragments of memory, lists of atoms, frames told by their known slots; one rule for each form of code. Plain lemmas, no statement of the program. -/
namespace Go.Proofs.YtgmapenlgammfaaGreatDoor
open Go Go.RowKit

/-! ### fragments -/
inductive Cel where
  | ro (o : Obj)
  | rw (o : Obj)
def Cel.obj : Cel → Obj
  | .ro o => o
  | .rw o => o
abbrev Frag := Nat → Option Cel
abbrev HProp := Frag → Prop
def Fle (h1 h : Frag) : Prop := ∀ i c, h1 i = some c → h i = some c
def Sep (h1 h2 : Frag) : Prop := ∀ i o, (h1 i = some (.rw o) → h2 i = none) ∧ (h2 i = some (.rw o) → h1 i = none)
theorem Fle.refl (h : Frag) : Fle h h := fun _ _ e => e
theorem Fle.trans {a b c : Frag} (h : Fle a b) (k : Fle b c) : Fle a c := fun i x e => k i x (h i x e)
theorem Sep.symm {a b : Frag} (h : Sep a b) : Sep b a := fun i o => ⟨(h i o).2, (h i o).1⟩
theorem Fle.none {a b : Frag} (h : Fle a b) {i : Nat} (e : b i = none) : a i = none := by
  cases x : a i with
  | none => rfl
  | some c => rw [h i c x] at e; cases e
theorem Sep.le {a b a' b' : Frag} (h : Sep a b) (ha : Fle a' a) (hb : Fle b' b) : Sep a' b' :=
  fun i o => ⟨fun e => hb.none ((h i o).1 (ha i _ e)), fun e => ha.none ((h i o).2 (hb i _ e))⟩
def Funion (a b : Frag) : Frag := fun i => (a i).or (b i)
theorem Funion.left (a b : Frag) : Fle a (Funion a b) := fun i c e => by simp [Funion, e]
theorem Funion.le {a b h : Frag} (ha : Fle a h) (hb : Fle b h) : Fle (Funion a b) h := by
  intro i c e
  unfold Funion at e
  cases x : a i with
  | none => rw [x] at e; exact hb i c (by simpa using e)
  | some y => rw [x] at e; exact ha i c (by simpa [x] using e)
theorem Funion.right {a b h : Frag} (ha : Fle a h) (hb : Fle b h) : Fle b (Funion a b) := by
  intro i c e
  unfold Funion
  cases x : a i with
  | none => simpa using e
  | some y => have := ha i y x; have := hb i c e; simp_all
theorem Sep.union {a b c : Frag} (h1 : Sep a b) (h2 : Sep a c) : Sep a (Funion b c) := by
  intro i o
  constructor
  · intro e; simp [Funion, (h1 i o).1 e, (h2 i o).1 e]
  · intro e
    unfold Funion at e
    cases x : b i with
    | none => rw [x] at e; exact (h2 i o).2 (by simpa using e)
    | some y => rw [x] at e; exact (h1 i o).2 (by simpa [x] using e)

def star : List HProp → HProp
  | [], _ => True
  | A :: M, h => ∃ h1 h2, Fle h1 h ∧ Fle h2 h ∧ Sep h1 h2 ∧ A h1 ∧ star M h2

theorem star.mono {M : List HProp} {h h' : Frag} (s : star M h) (l : Fle h h') : star M h' := by
  cases M with
  | nil => trivial
  | cons A M =>
    obtain ⟨h1, h2, l1, l2, d, a, m⟩ := s
    exact ⟨h1, h2, l1.trans l, l2.trans l, d, a, m⟩
theorem star.tail {A : HProp} {M : List HProp} {h : Frag} (s : star (A :: M) h) : star M h := by
  obtain ⟨h1, h2, l1, l2, d, a, m⟩ := s
  exact m.mono l2
theorem star.swap {A B : HProp} {M : List HProp} {h : Frag} (s : star (A :: B :: M) h) : star (B :: A :: M) h := by
  obtain ⟨h1, h2, l1, l2, d, a, h3, h4, l3, l4, d', b, m⟩ := s
  exact ⟨h3, Funion h1 h4, l3.trans l2, Funion.le l1 (l4.trans l2), Sep.union (d.le (Fle.refl _) l3).symm d', b, h1, h4, Funion.left _ _, Funion.right l1 (l4.trans l2), d.le (Fle.refl _) l4, a, m⟩
theorem star.cons_mono {A : HProp} {M N : List HProp} (k : ∀ h, star M h → star N h) {h : Frag} (s : star (A :: M) h) : star (A :: N) h := by
  obtain ⟨h1, h2, l1, l2, d, a, m⟩ := s
  exact ⟨h1, h2, l1, l2, d, a, k _ m⟩
theorem star.perm {M N : List HProp} (p : M.Perm N) : ∀ {h : Frag}, star M h → star N h := by
  induction p with
  | nil => exact fun s => s
  | cons A _ ih => exact fun s => s.cons_mono (fun _ => ih)
  | swap A B l => exact fun s => s.swap
  | trans _ _ ih1 ih2 => exact fun s => ih2 (ih1 s)
theorem star.split {M N : List HProp} : ∀ {h : Frag}, star (M ++ N) h → ∃ h1 h2, Fle h1 h ∧ Fle h2 h ∧ Sep h1 h2 ∧ star M h1 ∧ star N h2 := by
  induction M with
  | nil => exact fun {h} s => ⟨fun _ => none, h, (fun _ _ e => by cases e), Fle.refl _, fun i o => ⟨(fun e => by cases e), fun _ => rfl⟩, trivial, s⟩
  | cons A M ih =>
    intro h s
    obtain ⟨h1, h2, l1, l2, d, a, m⟩ := s
    obtain ⟨h3, h4, l3, l4, d', m3, m4⟩ := ih m
    exact ⟨Funion h1 h3, h4, Funion.le l1 (l3.trans l2), l4.trans l2, (Sep.union (d.le (Fle.refl _) l4).symm d'.symm).symm, ⟨h1, h3, Funion.left _ _, Funion.right l1 (l3.trans l2), d.le (Fle.refl _) l3, a, m3⟩, m4⟩
theorem star.join {M N : List HProp} : ∀ {h h1 h2 : Frag}, Fle h1 h → Fle h2 h → Sep h1 h2 → star M h1 → star N h2 → star (M ++ N) h := by
  induction M with
  | nil => exact fun _ l2 _ _ n => n.mono l2
  | cons A M ih =>
    intro h h1 h2 l1 l2 d m n
    obtain ⟨h3, h4, l3, l4, d', a, m⟩ := m
    refine ⟨h3, Funion h4 h2, l3.trans l1, Funion.le (l4.trans l1) l2, Sep.union d' (d.le l3 (Fle.refl _)), a, ?_⟩
    exact ih (Funion.left _ _) (Funion.right (l4.trans l1) l2) (d.le l4 (Fle.refl _)) m n

/-! ### taking atoms out of a list -/
/-- From M the atoms A may be taken, M' is left. -/
def Takes (M A M' : List HProp) : Prop := ∀ h, star M h → star (A ++ M') h
theorem Takes.nil (M : List HProp) : Takes M [] M := fun _ s => s
theorem Takes.here (A : HProp) (M : List HProp) : Takes (A :: M) [A] M := fun _ s => s
theorem Takes.there {A B : HProp} {M M' : List HProp} (k : Takes M [A] M') : Takes (B :: M) [A] (B :: M') :=
  fun _ s => (s.cons_mono (k)).swap
theorem Takes.cons {A : HProp} {M M1 M2 As : List HProp} (k : Takes M [A] M1) (k2 : Takes M1 As M2) : Takes M (A :: As) M2 :=
  fun h s => (k h s).cons_mono k2
theorem Takes.done (M : List HProp) : Takes M M [] := fun _ s => by simpa using s
theorem Takes.app (A M : List HProp) : Takes (A ++ M) A M := fun _ s => s
theorem Takes.there1 {A B : List HProp} {C : HProp} {M : List HProp} (k : Takes M A B) : Takes (C :: M) A (C :: B) := fun h s => by
  have s1 := s.cons_mono k
  refine star.perm ?_ s1
  exact List.perm_middle.symm
/-- From M follows N (atoms may be dropped). -/
def Gives (M N : List HProp) : Prop := ∀ h, star M h → star N h
theorem Gives.refl (M : List HProp) : Gives M M := fun _ s => s
theorem Gives.nil (M : List HProp) : Gives M [] := fun _ _ => trivial
theorem Gives.cons {A : HProp} {M M1 N : List HProp} (k : Takes M [A] M1) (k2 : Gives M1 N) : Gives M (A :: N) := fun h s => (k h s).cons_mono k2
theorem Gives.trans {A B C : List HProp} (k : Gives A B) (l : Gives B C) : Gives A C := fun h s => l h (k h s)
theorem Takes.gives {M A M' N : List HProp} (k : Takes M A M') (g : Gives (A ++ M') N) : Gives M N := fun h s => g h (k h s)
theorem Gives.app {A B M : List HProp} (k : Gives A B) : Gives (A ++ M) (B ++ M) := fun h s => by
  obtain ⟨h1, h2, l1, l2, d, m, n⟩ := s.split
  exact star.join l1 l2 d (k _ m) n
theorem Takes.drop2 (A : List HProp) (C : HProp) (F : List HProp) : Gives (A ++ C :: F) (A ++ F) := fun h s => by
  have s1 : star (C :: (A ++ F)) h := star.perm List.perm_middle s
  exact s1.tail
theorem Gives.drop {A : HProp} {M N : List HProp} (k : Gives M N) : Gives (A :: M) N := fun h s => k h s.tail
theorem Gives.drop1 (A : HProp) (M : List HProp) : Gives (A :: M) M := fun _ s => s.tail

/-! ### atoms -/
def pt (b : Nat) (o : Obj) : HProp := fun h => h b = some (.rw o)
def ro (b : Nat) (o : Obj) : HProp := fun h => h b = some (.ro o)
/-- A block of plain cells. -/
abbrev cel (b : Nat) (T : TypeId) (cs : List Value) : HProp := pt b (.cells cs.toArray T (0, 0))
abbrev rcel (b : Nat) (T : TypeId) (cs : List Value) : HProp := ro b (.cells cs.toArray T (0, 0))
theorem ro.dup {b : Nat} {o : Obj} {M : List HProp} {h : Frag} (s : star (ro b o :: M) h) : star (ro b o :: ro b o :: M) h := by
  obtain ⟨h1, h2, l1, l2, d, a, m⟩ := s
  have a' : h1 b = some (.ro o) := a
  refine ⟨fun i => if i = b then some (.ro o) else none, h, ?_, Fle.refl _, ?_, by simp [ro], ⟨h1, h2, l1, l2, d, a, m⟩⟩
  · intro i c e
    by_cases hi : i = b
    · subst hi; simp at e; subst e; exact l1 _ _ a'
    · simp [hi] at e
  · intro i o'
    constructor
    · intro e
      by_cases hi : i = b
      · subst hi; simp at e
      · simp [hi] at e
    · intro e
      by_cases hi : i = b
      · subst hi; have := l1 _ _ a'; rw [this] at e; cases e
      · simp [hi]
theorem Takes.ro {b : Nat} {o : Obj} {M : List HProp} : Takes (ro b o :: M) [ro b o] (ro b o :: M) := fun _ s => ro.dup s

/-! ### the world: the base is as it was, the fragment is there -/
structure Sat (w0 w : World) (h : Frag) : Prop where
  os : w.os = w0.os
  tape : w.tape = w0.tape
  output : w.output = w0.output
  size : w0.heap.size ≤ w.heap.size
  base : ∀ i, i < w0.heap.size → w.heap[i]? = w0.heap[i]?
  own : ∀ i c, h i = some c → w0.heap.size ≤ i ∧ w.heap[i]? = some c.obj
theorem Sat.below {w0 w : World} {h : Frag} (s : Sat w0 w h) : Below w0.heap.size w0 w := ⟨s.os, s.tape, s.output, s.size, s.base⟩
theorem Sat.le {w0 w : World} {h h' : Frag} (s : Sat w0 w h) (l : Fle h' h) : Sat w0 w h' := ⟨s.os, s.tape, s.output, s.size, s.base, fun i c e => s.own i c (l i c e)⟩
theorem Sat.refl (w : World) : Sat w w (fun _ => none) := ⟨rfl, rfl, rfl, Nat.le_refl _, fun _ _ => rfl, fun _ _ e => by cases e⟩
theorem Sat.of_below {w0 w : World} (b : Below w0.heap.size w0 w) : Sat w0 w (fun _ => none) := ⟨b.os, b.tape, b.output, b.size, b.block, fun _ _ e => by cases e⟩
theorem Sat.lt {w0 w : World} {h : Frag} (s : Sat w0 w h) {i : Nat} {c : Cel} (e : h i = some c) : i < w.heap.size := by
  have := (s.own i c e).2
  exact (Array.getElem?_eq_some_iff.1 this).1
theorem Sat.drawn {w0 w : World} {h : Frag} (s : Sat w0 w h) (n : Nat) : Sat w0 { w with drawn := n } h := ⟨s.os, s.tape, s.output, s.size, s.base, s.own⟩
theorem Sat.pt {w0 w : World} {h : Frag} (s : Sat w0 w h) {b : Nat} {o : Obj} {M : List HProp} (t : star (pt b o :: M) h) : w.heap[b]? = some o := by
  obtain ⟨h1, h2, l1, l2, d, a, m⟩ := t
  exact (s.own b _ (l1 b _ a)).2
theorem Sat.ro {w0 w : World} {h : Frag} (s : Sat w0 w h) {b : Nat} {o : Obj} {M : List HProp} (t : star (ro b o :: M) h) : w.heap[b]? = some o := by
  obtain ⟨h1, h2, l1, l2, d, a, m⟩ := t
  exact (s.own b _ (l1 b _ a)).2
theorem Sat.push {w0 w : World} {h : Frag} {M : List HProp} (s : Sat w0 w h) (t : star M h) (o : Obj) :
    ∃ h', star (Go.Proofs.YtgmapenlgammfaaGreatDoor.pt w.heap.size o :: M) h' ∧ Sat w0 { w with heap := w.heap.push o } h' := by
  have hn : h w.heap.size = none := by
    cases x : h w.heap.size with
    | none => rfl
    | some c => have := s.lt x; omega
  refine ⟨fun i => if i = w.heap.size then some (.rw o) else h i, ⟨fun i => if i = w.heap.size then some (.rw o) else none, h, ?_, ?_, ?_, by simp [Go.Proofs.YtgmapenlgammfaaGreatDoor.pt], t⟩, ?_⟩
  · intro i c e
    by_cases hi : i = w.heap.size
    · simpa [hi] using e
    · simp [hi] at e
  · intro i c e
    by_cases hi : i = w.heap.size
    · rw [hi, hn] at e; cases e
    · simpa [hi] using e
  · intro i o'
    constructor
    · intro e
      by_cases hi : i = w.heap.size
      · rw [hi]; exact hn
      · simp [hi] at e
    · intro e
      by_cases hi : i = w.heap.size
      · rw [hi, hn] at e; cases e
      · simp [hi]
  · refine ⟨s.os, s.tape, s.output, by simp; have := s.size; omega, ?_, ?_⟩
    · intro i hi
      have := s.size
      simp only [Array.getElem?_push]
      rw [if_neg (by omega)]
      exact s.base i hi
    · intro i c e
      by_cases hi : i = w.heap.size
      · subst hi
        simp at e
        subst e
        exact ⟨s.size, by simp [Cel.obj]⟩
      · simp [hi] at e
        have := s.own i c e
        have hlt := s.lt e
        refine ⟨this.1, ?_⟩
        simp only [Array.getElem?_push]
        rw [if_neg (by omega)]
        exact this.2
theorem Sat.put {w0 w w' : World} {h : Frag} {M : List HProp} {b : Nat} {o o' : Obj} (s : Sat w0 w h) (t : star (Go.Proofs.YtgmapenlgammfaaGreatDoor.pt b o :: M) h)
    (e1 : w'.os = w.os) (e2 : w'.tape = w.tape) (e3 : w'.output = w.output) (e4 : w'.heap.size = w.heap.size) (e5 : ∀ i, i ≠ b → w'.heap[i]? = w.heap[i]?) (e6 : w'.heap[b]? = some o') :
    ∃ h', star (Go.Proofs.YtgmapenlgammfaaGreatDoor.pt b o' :: M) h' ∧ Sat w0 w' h' := by
  obtain ⟨h1, h2, l1, l2, d, a, m⟩ := t
  have a' : h1 b = some (.rw o) := a
  have hb := s.own b _ (l1 b _ a')
  have h2b : h2 b = none := (d b o).1 a'
  refine ⟨fun i => if i = b then some (.rw o') else h2 i, ⟨fun i => if i = b then some (.rw o') else none, h2, ?_, ?_, ?_, by simp [Go.Proofs.YtgmapenlgammfaaGreatDoor.pt], m⟩, ?_⟩
  · intro i c e
    by_cases hi : i = b
    · simpa [hi] using e
    · simp [hi] at e
  · intro i c e
    by_cases hi : i = b
    · rw [hi, h2b] at e; cases e
    · simpa [hi] using e
  · intro i o2
    constructor
    · intro e
      by_cases hi : i = b
      · rw [hi]; exact h2b
      · simp [hi] at e
    · intro e
      by_cases hi : i = b
      · rw [hi, h2b] at e; cases e
      · simp [hi]
  · refine ⟨e1.trans s.os, e2.trans s.tape, e3.trans s.output, by rw [e4]; exact s.size, ?_, ?_⟩
    · intro i hi
      rw [e5 i (by have := hb.1; omega)]
      exact s.base i hi
    · intro i c e
      by_cases hi : i = b
      · subst hi; simp at e; subst e; exact ⟨hb.1, e6⟩
      · simp [hi] at e
        have := s.own i c (l2 i c e)
        exact ⟨this.1, by rw [e5 i hi]; exact this.2⟩
/-- An owned block is read-only from here on. -/
theorem Sat.freeze {w0 w : World} {h : Frag} {M : List HProp} {b : Nat} {o : Obj} (s : Sat w0 w h) (t : star (Go.Proofs.YtgmapenlgammfaaGreatDoor.pt b o :: M) h) :
    ∃ h', star (Go.Proofs.YtgmapenlgammfaaGreatDoor.ro b o :: M) h' ∧ Sat w0 w h' := by
  obtain ⟨h1, h2, l1, l2, d, a, m⟩ := t
  have a' : h1 b = some (.rw o) := a
  have hb := s.own b _ (l1 b _ a')
  have h2b : h2 b = none := (d b o).1 a'
  refine ⟨fun i => if i = b then some (.ro o) else h2 i, ⟨fun i => if i = b then some (.ro o) else none, h2, ?_, ?_, ?_, by simp [Go.Proofs.YtgmapenlgammfaaGreatDoor.ro], m⟩, ?_⟩
  · intro i c e
    by_cases hi : i = b
    · simpa [hi] using e
    · simp [hi] at e
  · intro i c e
    by_cases hi : i = b
    · rw [hi, h2b] at e; cases e
    · simpa [hi] using e
  · intro i o2
    constructor
    · intro e
      by_cases hi : i = b
      · subst hi; simp at e
      · simp [hi] at e
    · intro e
      by_cases hi : i = b
      · rw [hi, h2b] at e; cases e
      · simp [hi]
  · refine ⟨s.os, s.tape, s.output, s.size, s.base, ?_⟩
    intro i c e
    by_cases hi : i = b
    · subst hi; simp at e; subst e; exact hb
    · simp [hi] at e
      exact s.own i c (l2 i c e)

/-! ### frames by their known slots -/
abbrev Env := List (Nat × Value)
def Env.get : Env → Nat → Option Value
  | [], _ => none
  | (k, v) :: r, t => bif Nat.beq k t then some v else Env.get r t
theorem Look.here {k : Nat} {v : Value} {r : Env} : Env.get ((k, v) :: r) k = some v := by simp [Env.get]
theorem Look.there {k t : Nat} {u : Value} {r : Env} {x : Option Value} (h : Env.get r t = x) (e : Nat.beq k t = false) : Env.get ((k, u) :: r) t = x := by simp [Env.get, e, h]
structure St (n : Nat) (L : Env) (a : Act) : Prop where
  df : a.defers = []
  sz : a.tmps.size = n
  ok : ∀ t v, L.get t = some v → a.tmps[t]? = some v
theorem St.put {n : Nat} {L : Env} {a : Act} (s : St n L a) {d : Nat} (v : Value) (hd : Nat.blt d n = true) : St n ((d, v) :: L) (a.put (some d) v) := by
  have hd' : d < n := by simpa [Nat.blt_eq] using hd
  refine ⟨s.df, by simp [Act.put, s.sz], ?_⟩
  intro t u e
  simp only [Env.get] at e
  simp only [Act.put]
  cases hb : Nat.beq d t with
  | true =>
    have : d = t := Nat.eq_of_beq_eq_true hb
    subst this
    rw [hb] at e
    simp at e
    subst e
    simp [s.sz, hd']
  | false =>
    rw [hb] at e
    have hne : d ≠ t := Nat.ne_of_beq_eq_false hb
    rw [Array.getElem?_setIfInBounds_ne hne]
    exact s.ok t u (by simpa using e)
theorem St.sub {n : Nat} {L L' : Env} {a : Act} (s : St n L a) (k : ∀ t v, L'.get t = some v → L.get t = some v) : St n L' a := ⟨s.df, s.sz, fun t v e => s.ok t v (k t v e)⟩
/-- An operand's value. -/
def Ev (L : Env) (x : Operand) (v : Value) : Prop := ∀ n a, St n L a → a.eval x = v
theorem Ev.tmp {L : Env} {t : Nat} {v : Value} (h : L.get t = some v) : Ev L (.tmp t) v := fun n a s => by simp [Act.eval, s.ok t v h]
theorem Ev.const {L : Env} {v : Value} : Ev L (.const v) v := fun _ _ _ => rfl
theorem Ev.func {L : Env} {f : FuncId} : Ev L (.func f) (.func (.func f) #[] #[]) := fun _ _ _ => rfl
theorem Ev.glob {L : Env} {g : Nat} : Ev L (.global g) (.pointer (some ⟨g, 0, none⟩)) := fun _ _ _ => rfl
theorem Act.getD_eval (a : Act) (t : Nat) : a.tmps.getD t undef = a.eval (.tmp t) := rfl

/-! ### judgements -/
/-- Behind the exit e the rest Q holds. -/
def XJ (w0 : World) (n : Nat) (e : Exit) (Q : Exit → Act → World → Prop) (L : Env) (M : List HProp) : Prop :=
  ∀ a w h, St n L a → star M h → Sat w0 w h → Q e a w
def CJ (P : Program) (w0 : World) (n : Nat) (c : Code) (Q : Exit → Act → World → Prop) (L : Env) (M : List HProp) : Prop :=
  ∀ a w h, St n L a → star M h → Sat w0 w h → c.wp P Q a w
def RL (P : Program) (w0 : World) (n : Nat) (ops : Array Oper) (Q : Exit → Act → World → Prop) (l : List Oper) (L : Env) (M : List HProp) : Prop :=
  ∀ a w h, St n L a → star M h → Sat w0 w h → wpList P ops Q l a w

section
variable {P : Program} {w0 : World} {n : Nat} {ops : Array Oper} {Q : Exit → Act → World → Prop} {L : Env} {M : List HProp}

theorem XJ.gives {e : Exit} {M' : List HProp} (g : Gives M M') (k : XJ w0 n e Q L M') : XJ w0 n e Q L M := fun a w h s m t => k a w h s (g h m) t
theorem CJ.gives {c : Code} {M' : List HProp} (g : Gives M M') (k : CJ P w0 n c Q L M') : CJ P w0 n c Q L M := fun a w h s m t => k a w h s (g h m) t
theorem RL.gives {l : List Oper} {M' : List HProp} (g : Gives M M') (k : RL P w0 n ops Q l L M') : RL P w0 n ops Q l L M := fun a w h s m t => k a w h s (g h m) t
theorem CJ.env {c : Code} {L' : Env} (g : ∀ t v, L'.get t = some v → L.get t = some v) (k : CJ P w0 n c Q L' M) : CJ P w0 n c Q L M := fun a w h s m t => k a w h (s.sub g) m t
theorem XJ.env {e : Exit} {L' : Env} (g : ∀ t v, L'.get t = some v → L.get t = some v) (k : XJ w0 n e Q L' M) : XJ w0 n e Q L M := fun a w h s m t => k a w h (s.sub g) m t
theorem RL.env {l : List Oper} {L' : Env} (g : ∀ t v, L'.get t = some v → L.get t = some v) (k : RL P w0 n ops Q l L' M) : RL P w0 n ops Q l L M := fun a w h s m t => k a w h (s.sub g) m t
/-- A block becomes read-only. -/
theorem CJ.freeze {c : Code} {M' : List HProp} {b : Nat} {o : Obj} (g : Takes M [pt b o] M') (k : CJ P w0 n c Q L (ro b o :: M')) : CJ P w0 n c Q L M :=
  fun a w h s m t => by
    obtain ⟨h', m', t'⟩ := t.freeze (g h m)
    exact k a w h' s m' t'
theorem RL.freeze {l : List Oper} {M' : List HProp} {b : Nat} {o : Obj} (g : Takes M [pt b o] M') (k : RL P w0 n ops Q l L (ro b o :: M')) : RL P w0 n ops Q l L M :=
  fun a w h s m t => by
    obtain ⟨h', m', t'⟩ := t.freeze (g h m)
    exact k a w h' s m' t'

/-! exits -/
theorem XJ.next {y : Code} {Q' : Exit → Act → World → Prop} (k : CJ P w0 n y Q L M) : XJ w0 n .normal (Exit.then (fun a w => y.wp P Q a w) Q') L M := k
theorem XJ.then_ret {K : Act → World → Prop} (k : XJ w0 n .ret Q L M) : XJ w0 n .ret (Exit.then K Q) L M := k
theorem XJ.then_exit {K : Act → World → Prop} {i : Nat} (k : XJ w0 n (.exit i) Q L M) : XJ w0 n (.exit i) (Exit.then K Q) L M := k
theorem XJ.then_panic {K : Act → World → Prop} {c : List PanicEntry} (k : XJ w0 n (.panic c) Q L M) : XJ w0 n (.panic c) (Exit.then K Q) L M := k
theorem XJ.block_normal {i : Nat} (k : XJ w0 n .normal Q L M) : XJ w0 n .normal (Exit.inBlock i Q) L M := k
theorem XJ.block_ret {i : Nat} (k : XJ w0 n .ret Q L M) : XJ w0 n .ret (Exit.inBlock i Q) L M := k
theorem XJ.block_panic {i : Nat} {c : List PanicEntry} (k : XJ w0 n (.panic c) Q L M) : XJ w0 n (.panic c) (Exit.inBlock i Q) L M := k
theorem XJ.block_exit {i : Nat} (k : XJ w0 n .normal Q L M) : XJ w0 n (.exit i) (Exit.inBlock i Q) L M := fun a w h s m t => by
  simp only [Exit.inBlock, if_true]; exact k a w h s m t
theorem XJ.block_other {i j : Nat} (e : Nat.beq j i = false) (k : XJ w0 n (.exit j) Q L M) : XJ w0 n (.exit j) (Exit.inBlock i Q) L M := fun a w h s m t => by
  have : j ≠ i := Nat.ne_of_beq_eq_false e
  simp only [Exit.inBlock, if_neg this]; exact k a w h s m t

/-! code -/
theorem CJ.seq {x y : Code} (k : CJ P w0 n x (Exit.then (fun a w => y.wp P Q a w) Q) L M) : CJ P w0 n (.seq x y) Q L M := fun a w h s m t => wp_seq (k a w h s m t)
theorem CJ.block {i : Nat} {c : Code} (k : CJ P w0 n c (Exit.inBlock i Q) L M) : CJ P w0 n (.block i c) Q L M := fun a w h s m t => wp_block (k a w h s m t)
theorem CJ.skip (k : XJ w0 n .normal Q L M) : CJ P w0 n .skip Q L M := fun a w h s m t => wp_skip (k a w h s m t)
theorem CJ.exit {i : Nat} (k : XJ w0 n (.exit i) Q L M) : CJ P w0 n (.exit i) Q L M := fun a w h s m t => wp_exit (k a w h s m t)
theorem CJ.ret (k : XJ w0 n .ret Q L M) : CJ P w0 n .ret Q L M := fun a w h s m t => wp_ret (k a w h s m t)
theorem CJ.cond {c : Operand} {x y : Code} {b : Bool} (hc : Ev L c (.bool b)) (k1 : b = true → CJ P w0 n x Q L M) (k2 : b = false → CJ P w0 n y Q L M) : CJ P w0 n (.cond c x y) Q L M :=
  fun a w h s m t => wp_cond (t := b) (hc n a s) (by
    cases b with
    | true => exact k1 rfl a w h s m t
    | false => exact k2 rfl a w h s m t)
theorem CJ.condT {c : Operand} {x y : Code} (hc : Ev L c (.bool true)) (k : CJ P w0 n x Q L M) : CJ P w0 n (.cond c x y) Q L M := CJ.cond hc (fun _ => k) (fun h => by cases h)
theorem CJ.condF {c : Operand} {x y : Code} (hc : Ev L c (.bool false)) (k : CJ P w0 n y Q L M) : CJ P w0 n (.cond c x y) Q L M := CJ.cond hc (fun h => by cases h) (fun _ => k)
theorem CJ.region {i : Nat} {l : List Oper} (k : RL P w0 n l.toArray Q l L M) : CJ P w0 n (.region i l.toArray false) Q L M := fun a w h s m t => wp_region_lit (k a w h s m t)
theorem RL.nil (k : XJ w0 n .normal Q L M) : RL P w0 n ops Q [] L M := k

/-- A loop: states s of type σ, each with a frame and a memory; every round lowers μ. -/
theorem CJ.loop {σ : Type} {c : Code} (C : σ → Prop) (Lf : σ → Env) (Mf : σ → List HProp) (μ : σ → Nat) (s0 : σ) (h0 : C s0)
    (hL : ∀ t v, (Lf s0).get t = some v → L.get t = some v) (hM : Gives M (Mf s0))
    (body : ∀ s, C s → CJ P w0 n c (Exit.then (fun a w => ∃ s', C s' ∧ μ s' < μ s ∧ ∃ h, St n (Lf s') a ∧ star (Mf s') h ∧ Sat w0 w h) Q) (Lf s) (Mf s)) :
    CJ P w0 n (.loop c) Q L M := by
  have key : ∀ k s, μ s < k → C s → ∀ a w h, St n (Lf s) a → star (Mf s) h → Sat w0 w h → ∃ j, Code.rounds P c Q j a w := by
    intro k
    induction k with
    | zero => intro s hs; omega
    | succ k ih =>
      intro s hs hC a w h st sm sa
      have hb := body s hC a w h st sm sa
      -- one round, then by the measure; rounds are monotone in their number
      have mono : ∀ i j a w, i ≤ j → Code.rounds P c Q i a w → Code.rounds P c Q j a w := by
        intro i
        induction i with
        | zero => intro j a w _ hr; exact hr.elim
        | succ i ihi =>
          intro j a w hij hr
          obtain ⟨j, rfl⟩ : ∃ m, j = m + 1 := ⟨j - 1, by omega⟩
          rw [rounds_succ] at hr ⊢
          exact wp_mono hr (fun e a w q => by
            cases e with
            | normal => exact ihi j a w (by omega) q
            | _ => exact q)
      -- the bound on the rounds that are left: μ s' < μ s < k + 1
      have h2 : ∀ m s, μ s < m → C s → ∀ a w h, St n (Lf s) a → star (Mf s) h → Sat w0 w h → Code.rounds P c Q m a w := by
        intro m
        induction m with
        | zero => intro s hs; omega
        | succ m ihm =>
          intro s hs hC a w h st sm sa
          rw [rounds_succ]
          exact wp_mono (body s hC a w h st sm sa) (fun e a w q => by
            cases e with
            | normal =>
              obtain ⟨s', hC', hlt, h', st', sm', sa'⟩ := q
              exact ihm s' (by omega) hC' a w h' st' sm' sa'
            | _ => exact q)
      exact ⟨_, h2 (μ s + 1) s (by omega) hC a w h st sm sa⟩
  intro a w h st sm sa
  obtain ⟨j, hj⟩ := key (μ s0 + 1) s0 (by omega) h0 a w h (st.sub hL) (hM h sm) sa
  exact wp_loop_rounds j hj
theorem XJ.round {σ : Type} {C : σ → Prop} {Lf : σ → Env} {Mf : σ → List HProp} {μ : σ → Nat} {s : σ} (s' : σ) (hC : C s') (hlt : μ s' < μ s)
    (hL : ∀ t v, (Lf s').get t = some v → L.get t = some v) (hM : Gives M (Mf s')) :
    XJ w0 n .normal (Exit.then (fun a w => ∃ s', C s' ∧ μ s' < μ s ∧ ∃ h, St n (Lf s') a ∧ star (Mf s') h ∧ Sat w0 w h) Q) L M :=
  fun a w h st sm sa => ⟨s', hC, hlt, h, st.sub hL, hM h sm, sa⟩
end

/-! frames: a smaller one -/
theorem Env.sub_nil {L : Env} : ∀ t v, Env.get [] t = some v → L.get t = some v := fun _ _ e => by cases e
theorem Env.sub_cons {L L' : Env} {k : Nat} {u : Value} (h : L.get k = some u) (r : ∀ t v, L'.get t = some v → L.get t = some v) : ∀ t v, Env.get ((k, u) :: L') t = some v → L.get t = some v := by
  intro t v e
  simp only [Env.get] at e
  cases hb : Nat.beq k t with
  | true =>
    have := Nat.eq_of_beq_eq_true hb
    subst this
    rw [hb] at e
    simp at e
    subst e
    exact h
  | false => rw [hb] at e; exact r t v (by simpa using e)

/-! ### contracts -/
/-- Function f at these arguments, over the base w0: from the atoms pre it comes to an ending e with the atoms M', R e M'; all else is kept. -/
def Spec (P : Program) (w0 : World) (f : FuncId) (args : Array Value) (pre : List HProp) (R : Ending → List HProp → Prop) : Prop :=
  ∀ (F : List HProp) (w : World) (h : Frag), star (pre ++ F) h → Sat w0 w h →
    Calls P f args w fun e w' => ∃ M' h', R e M' ∧ star (M' ++ F) h' ∧ Sat w0 w' h'

theorem Spec.mono {P : Program} {w0 : World} {f : FuncId} {args : Array Value} {pre : List HProp} {R R' : Ending → List HProp → Prop} (s : Spec P w0 f args pre R) (k : ∀ e M, R e M → R' e M) : Spec P w0 f args pre R' :=
  fun F w h m t => (s F w h m t).mono fun e w' ⟨M', h', r, m', t'⟩ => ⟨M', h', k e M' r, m', t'⟩
/-- What is owned may be handed on as the base: the call only reads it and makes new memory. -/
theorem Spec.rebase {P : Program} {w0 : World} {f : FuncId} {args : Array Value} {M : List HProp} {R : Ending → List HProp → Prop}
    (k : ∀ w h, star M h → Sat w0 w h → Spec P w f args [] R) : Spec P w0 f args M (fun e M' => ∃ N, R e N ∧ M' = N ++ M) := by
  intro F w h m t
  obtain ⟨h1, h2, l1, l2, d, m1, m2⟩ := m.split
  refine (k w h1 m1 (t.le l1) [] w (fun _ => none) (by trivial) (Sat.refl w)).mono ?_
  rintro e w' ⟨N, h', r, n', t'⟩
  simp only [List.append_nil] at n'
  have hs : ∀ i c, h i = some c → h' i = none := by
    intro i c e
    cases x : h' i with
    | none => rfl
    | some c' =>
      have := (t'.own i c' x).1
      have := t.lt e
      omega
  refine ⟨_, Funion h' h, ⟨N, r, rfl⟩, ?_, ?_⟩
  · rw [List.append_assoc]
    refine star.join (Funion.left _ _) ?_ ?_ n' m
    · intro i c e; simp [Funion, hs i c e, e]
    · intro i o
      constructor
      · intro e
        cases x : h i with
        | none => rfl
        | some c => rw [hs i c x] at e; cases e
      · intro e; exact hs i _ e
  · refine ⟨t'.os.trans t.os, t'.tape.trans t.tape, t'.output.trans t.output, Nat.le_trans t.size t'.size, ?_, ?_⟩
    · intro i hi
      rw [t'.base i (by have := t.size; omega)]
      exact t.base i hi
    · intro i c e
      unfold Funion at e
      cases x : h' i with
      | some y =>
        rw [x] at e
        simp at e
        subst e
        have := t'.own i y x
        exact ⟨by have := t.size; omega, this.2⟩
      | none =>
        rw [x] at e
        simp at e
        have h3 := t.own i c e
        exact ⟨h3.1, by rw [t'.base i (t.lt e)]; exact h3.2⟩

theorem St.enter (args : List Value) (m : Nat) (L : Env) (hL : ∀ t v, L.get t = some v → args[t]? = some v) :
    St (args.length + m) L { tmps := args.toArray ++ Array.replicate m undef, defers := [] } := by
  refine ⟨rfl, by simp, ?_⟩
  intro t v e
  have := hL t v e
  have hlt : t < args.length := by
    rcases Nat.lt_or_ge t args.length with h | h
    · exact h
    · rw [List.getElem?_eq_none h] at this; cases this
  rw [Array.getElem?_append_left (by simpa using hlt)]
  simpa using this

/-- The arguments as slots 0, 1, .. -/
def argsEnv : Nat → List Value → Env
  | _, [] => []
  | k, v :: r => (k, v) :: argsEnv (k + 1) r
theorem argsEnv_get (args : List Value) : ∀ k t v, Env.get (argsEnv k args) t = some v → k ≤ t ∧ args[t - k]? = some v := by
  induction args with
  | nil => intro k t v e; simp [argsEnv, Env.get] at e
  | cons x r ih =>
    intro k t v e
    simp only [argsEnv, Env.get] at e
    cases hb : Nat.beq k t with
    | true =>
      have := Nat.eq_of_beq_eq_true hb
      subst this
      rw [hb] at e
      simp at e
      subst e
      simp
    | false =>
      rw [hb] at e
      have hne := Nat.ne_of_beq_eq_false hb
      obtain ⟨h1, h2⟩ := ih (k + 1) t v (by simpa using e)
      refine ⟨by omega, ?_⟩
      rw [show t - k = (t - (k + 1)) + 1 by omega]
      simpa using h2

/-- A function is entered. -/
theorem Spec.enter {P : Program} {w0 : World} {f : FuncId} {fn : Func} {c : Code} {args : List Value} {pre : List HProp} {R : Ending → List HProp → Prop} {n : Nat}
    (hf : P.funcs[f]? = some fn) (hb : fn.body = some c) (hn : fn.ntmps = n) (hle : Nat.ble args.length n = true)
    (k : ∀ F, CJ P w0 n c (bodyPost P fn fun e w' => ∃ M' h', R e M' ∧ star (M' ++ F) h' ∧ Sat w0 w' h') (argsEnv 0 args) (pre ++ F)) : Spec P w0 f args.toArray pre R := by
  intro F w h m t
  refine calls_of_wp hf hb ?_
  have hle' : args.length ≤ n := by simpa [Nat.ble_eq] using hle
  have hst := St.enter args (n - args.length) (argsEnv 0 args) (fun t v e => by have := argsEnv_get args 0 t v e; simpa using this.2)
  rw [show args.length + (n - args.length) = n by omega] at hst
  have : args.toArray.size = args.length := by simp
  rw [hn, this]
  exact k F _ w h hst m t

section
variable {P : Program} {w0 : World} {n : Nat} {L : Env} {M : List HProp} {fn : Func} {R : Ending → List HProp → Prop} {F : List HProp}
abbrev endOf (P : Program) (w0 : World) (fn : Func) (R : Ending → List HProp → Prop) (F : List HProp) : Exit → Act → World → Prop :=
  bodyPost P fn fun e w' => ∃ M' h', R e M' ∧ star (M' ++ F) h' ∧ Sat w0 w' h'
theorem XJ.ret1 {t : Nat} {v : Value} (hr : fn.results = #[.tmp t]) (hv : L.get t = some v) (M' : List HProp) (hM : Gives M (M' ++ F)) (hR : R (.returned v) M') : XJ w0 n .ret (endOf P w0 fn R F) L M :=
  fun a w h s m sa => ⟨s.df, v, by rw [results_tmp hr, Act.getD_eval, Ev.tmp hv n a s], M', h, hR, hM h m, sa⟩
theorem XJ.ret2 {t u : Nat} {v x : Value} (hr : fn.results = #[.tmp t, .tmp u]) (hv : L.get t = some v) (hx : L.get u = some x) (M' : List HProp) (hM : Gives M (M' ++ F)) (hR : R (.returned (.tuple #[v, x])) M') : XJ w0 n .ret (endOf P w0 fn R F) L M :=
  fun a w h s m sa => ⟨s.df, .tuple #[v, x], by rw [results_tmp2 hr, Act.getD_eval, Act.getD_eval, Ev.tmp hv n a s, Ev.tmp hx n a s], M', h, hR, hM h m, sa⟩
theorem XJ.ret0 (hr : fn.results = #[]) (M' : List HProp) (hM : Gives M (M' ++ F)) (hR : R (.returned (.tuple #[])) M') : XJ w0 n .ret (endOf P w0 fn R F) L M :=
  fun a w h s m sa => ⟨s.df, .tuple #[], results_none hr _ _ _, M', h, hR, hM h m, sa⟩
theorem XJ.end0 (hr : fn.results = #[]) (M' : List HProp) (hM : Gives M (M' ++ F)) (hR : R (.returned (.tuple #[])) M') : XJ w0 n .normal (endOf P w0 fn R F) L M :=
  fun a w h s m sa => ⟨s.df, .tuple #[], results_none hr _ _ _, M', h, hR, hM h m, sa⟩
theorem XJ.panics {c : List PanicEntry} (M' : List HProp) (hM : Gives M (M' ++ F)) (hR : R (.panicked c) M') : XJ w0 n (.panic c) (endOf P w0 fn R F) L M :=
  fun a w h s m sa => ⟨s.df, M', h, hR, hM h m, sa⟩
end
attribute [irreducible] Takes Gives Ev XJ CJ RL Spec pt ro
end Go.Proofs.YtgmapenlgammfaaGreatDoor

/- The rules of the operations over the separation logic: what each operation gives in a known frame and memory. Plain lemmas, no statement of the program. -/
namespace Go.Proofs.YtgmapenlgammfaaGreatDoor
open Go Go.RowKit
attribute [local semireducible] Takes Gives Ev XJ CJ RL Spec pt ro

/-! ### types -/
class Sca (P : Program) (T : TypeId) : Prop where
  agg : ∀ w, (isAgg T).run P w = .ok false w
  sz : ∀ w, (sizeOf T).run P w = .ok 1 w
class AggT (P : Program) (T : TypeId) (k : outParam Nat) : Prop where
  agg : ∀ w, (isAgg T).run P w = .ok true w
  sz : ∀ w, (sizeOf T).run P w = .ok k w
class FldT (P : Program) (T f : Nat) (off FT : outParam Nat) : Prop where
  run : ∀ b o w, (Instr.fieldAt T (.pointer (some ⟨b, o, none⟩)) f).run P w = .ok (.pointer (some ⟨b, o + off, none⟩)) w
  val : ∀ cs w, (Instr.field T (.agg cs) f).run P w = (part FT cs off).run P w
class SliceT (P : Program) (T : TypeId) (E sz : outParam Nat) : Prop where
  und : P.underlying T = some (.slice E)
  sz : ∀ w, (sizeOf E).run P w = .ok sz w
class MapT (P : Program) (T : TypeId) (K E : outParam Nat) : Prop where
  und : P.underlying T = some (.map K E)
class ZeroT (P : Program) (T : TypeId) (z : outParam Value) : Prop where
  run : ∀ w, (zeroValue T).run P w = .ok z w
class CallT (P : Program) (f : FuncId) : Prop where
  run : ∀ args w, (callFunc f args).run P w = .ok (.enter f args) w
class NotIface (P : Program) (T : TypeId) : Prop where
  run : ∀ v w, (Instr.makeInterface T v).run P w = .ok (.iface T v) w

theorem run_info {P : Program} {T : TypeId} {i : TypeInfo} (h : P.info? T = some i) (w : World) : (typeInfo T).run P w = .ok i w := by
  simp [typeInfo, program, Sem.run, h]
theorem run_und {P : Program} {T : TypeId} {d : TypeDesc} (h : P.underlying T = some d) (w : World) : (underlying T).run P w = .ok d w := by
  simp [underlying, program, Sem.run, h]
def aggB (P : Program) (T : TypeId) : Option (Bool × Nat) :=
  match P.underlying T, P.info? T with
  | some (.struct _), some i => some (true, i.size)
  | some (.array _ _), some i => some (true, i.size)
  | some _, some i => some (false, i.size)
  | _, _ => none
theorem aggB_run {P : Program} {T : TypeId} {b : Bool} {k : Nat} (h : aggB P T = some (b, k)) (w : World) : (isAgg T).run P w = .ok b w ∧ (sizeOf T).run P w = .ok k w := by
  unfold aggB at h
  cases hu : P.underlying T with
  | none => rw [hu] at h; cases h
  | some d =>
    cases hi : P.info? T with
    | none => rw [hu, hi] at h; cases d <;> cases h
    | some i =>
      rw [hu, hi] at h
      refine ⟨?_, ?_⟩
      · simp only [isAgg, Sem.run_bind, run_und hu, Result.andThen_ok]
        cases d <;> (simp at h; obtain ⟨rfl, rfl⟩ := h; rfl)
      · simp only [sizeOf, Sem.run_bind, run_info hi, Result.andThen_ok, Sem.run_pure]
        cases d <;> (simp at h; obtain ⟨rfl, rfl⟩ := h; rfl)
theorem Sca.of {P : Program} {T : TypeId} (h : aggB P T = some (false, 1)) : Sca P T := ⟨fun w => (aggB_run h w).1, fun w => (aggB_run h w).2⟩
theorem AggT.of {P : Program} {T k : Nat} (h : aggB P T = some (true, k)) : AggT P T k := ⟨fun w => (aggB_run h w).1, fun w => (aggB_run h w).2⟩
def fldB (P : Program) (T f : Nat) : Option (Nat × Nat × Nat) :=
  match P.underlying T with
  | some (.struct fs) => match fs[f]? with
    | some fd => match P.info? fd.type with
      | some i => some (fd.offset, fd.type, i.size)
      | none => none
    | none => none
  | _ => none
theorem add_plain' (b o k : Nat) : (⟨b, o, none⟩ : Addr).add k = ⟨b, o + k, none⟩ := by unfold Addr.add; split <;> simp_all
theorem FldT.of {P : Program} {T f off FT : Nat} (k : Nat) (h : fldB P T f = some (off, FT, k + 1)) : FldT P T f off FT := by
  unfold fldB at h
  cases hu : P.underlying T with
  | none => rw [hu] at h; cases h
  | some d =>
    rw [hu] at h
    cases d <;> try (cases h; done)
    rename_i fs
    simp only at h
    cases hf : fs[f]? with
    | none => rw [hf] at h; cases h
    | some fd =>
      rw [hf] at h
      simp only at h
      cases hi : P.info? fd.type with
      | none => rw [hi] at h; cases h
      | some i =>
        rw [hi] at h
        simp only [Option.some.injEq, Prod.mk.injEq] at h
        obtain ⟨rfl, rfl, hk⟩ := h
        refine ⟨fun b o w => ?_, fun cs w => ?_⟩
        · simp only [Instr.fieldAt, Sem.run_bind, run_und hu, Result.andThen_ok, hf, Instr.sureAddr, Sem.run_pure, fieldPlace, sizeOf, run_info hi, hk]
          simp [add_plain']
        · simp only [Instr.field, Sem.run_bind, run_und hu, Result.andThen_ok, hf, asAgg, Sem.run_pure]
def sliceB (P : Program) (T : Nat) : Option (Nat × Nat) :=
  match P.underlying T with
  | some (.slice E) => match P.info? E with
    | some i => some (E, i.size)
    | none => none
  | _ => none
theorem SliceT.of {P : Program} {T E k : Nat} (h : sliceB P T = some (E, k)) : SliceT P T E k := by
  unfold sliceB at h
  cases hu : P.underlying T with
  | none => rw [hu] at h; cases h
  | some d =>
    rw [hu] at h
    cases d <;> try (cases h; done)
    rename_i e
    simp only at h
    cases hi : P.info? e with
    | none => rw [hi] at h; cases h
    | some i =>
      rw [hi] at h
      simp only [Option.some.injEq, Prod.mk.injEq] at h
      obtain ⟨rfl, rfl⟩ := h
      exact ⟨hu, fun w => by simp [sizeOf, run_info hi]⟩
def zeroB (P : Program) (T : Nat) : Option Value := (P.info? T).bind (·.zero)
theorem ZeroT.of {P : Program} {T : Nat} {z : Value} (h : zeroB P T = some z) : ZeroT P T z := by
  unfold zeroB at h
  cases hi : P.info? T with
  | none => rw [hi] at h; cases h
  | some i =>
    rw [hi] at h
    exact ⟨fun w => by simp only [zeroValue, Sem.run_bind, run_info hi, Result.andThen_ok]; simp at h; rw [h]; rfl⟩

def concB (P : Program) (T : TypeId) : Bool := match P.underlying T with
  | some (.interface _) => false
  | some _ => true
  | none => false
theorem NotIface.of {P : Program} {T : TypeId} (h : concB P T = true) : NotIface P T := by
  refine ⟨fun v w => ?_⟩
  unfold concB at h
  cases hu : P.underlying T with
  | none => rw [hu] at h; cases h
  | some d =>
    rw [hu] at h
    simp only [Instr.makeInterface, Sem.run_bind, run_und hu, Result.andThen_ok]
    cases d <;> first | rfl | (cases h)

/-! ### operations that only compute or read -/
def OpP (P : Program) (w0 : World) (L : Env) (M : List HProp) (o : Oper) (v : Value) : Prop :=
  ∀ n a w h, St n L a → star M h → Sat w0 w h → (execOp a.eval o).run P w = .ok (.value v) w
/-- Operands' values. -/
inductive EvL (L : Env) : List Operand → List Value → Prop
  | nil : EvL L [] []
  | cons {x : Operand} {v : Value} {xs : List Operand} {vs : List Value} : Ev L x v → EvL L xs vs → EvL L (x :: xs) (v :: vs)
theorem EvL.map {L : Env} {xs : List Operand} {vs : List Value} (h : EvL L xs vs) {n : Nat} {a : Act} (s : St n L a) : xs.map a.eval = vs := by
  induction h with
  | nil => rfl
  | cons e _ ih => simp [e n a s, ih]

section
variable {P : Program} {w0 : World} {L : Env} {M : List HProp} {d : Option Tmp} {T : TypeId} {p : String} {af : Array Edge} {g : Option (Nat × Bool)}

theorem OpP.move {x : Operand} {v : Value} (hx : Ev L x v) : OpP P w0 L M ⟨d, .move x, T, p, af, g⟩ v := fun n a w h s _ _ => by simp [execOp, hx n a s]
theorem OpP.assign {x : Operand} {v : Value} (hx : Ev L x v) : OpP P w0 L M ⟨d, .assign x, T, p, af, g⟩ v := fun n a w h s _ _ => by simp [execOp, hx n a s]
theorem OpP.pickT {c x y : Operand} {v : Value} (hc : Ev L c (.bool true)) (hx : Ev L x v) : OpP P w0 L M ⟨d, .pick c x y, T, p, af, g⟩ v := fun n a w h s _ _ => by simp [execOp, hc n a s, hx n a s, asBool]
theorem OpP.pickF {c x y : Operand} {v : Value} (hc : Ev L c (.bool false)) (hy : Ev L y v) : OpP P w0 L M ⟨d, .pick c x y, T, p, af, g⟩ v := fun n a w h s _ _ => by simp [execOp, hc n a s, hy n a s, asBool]
theorem OpP.fieldAddr {S f off FT : Nat} {x : Operand} {b o : Nat} [k : FldT P S f off FT] (hx : Ev L x (.pointer (some ⟨b, o, none⟩))) : OpP P w0 L M ⟨d, .fieldAddr S x f, T, p, af, g⟩ (.pointer (some ⟨b, o + off, none⟩)) :=
  fun n a w h s _ _ => by simp [execOp, hx n a s, k.run]
theorem OpP.nilCheck {x : Operand} {ad : Addr} (hx : Ev L x (.pointer (some ad))) : OpP P w0 L M ⟨d, .nilCheck x, T, p, af, g⟩ (.pointer (some ad)) :=
  fun n a w h s _ _ => by simp [execOp, hx n a s]
theorem OpP.makeFunc {fn : Fn} {xs ys : List Operand} {us vs : List Value} (hx : EvL L xs us) (hy : EvL L ys vs) : OpP P w0 L M ⟨d, .makeFunc fn xs.toArray ys.toArray, T, p, af, g⟩ (.func fn us.toArray vs.toArray) :=
  fun n a w h s _ _ => by simp [execOp, Instr.makeFunc, hx.map s, hy.map s]
theorem OpP.extract {x : Operand} {i : Nat} {vs : List Value} {v : Value} (hx : Ev L x (.tuple vs.toArray)) (hv : vs[i]? = some v) : OpP P w0 L M ⟨d, .extract x i, T, p, af, g⟩ v :=
  fun n a w h s _ _ => by simp [execOp, hx n a s, Instr.extract, hv]
theorem OpP.not {t : TypeId} {x : Operand} {b : Bool} (hx : Ev L x (.bool b)) : OpP P w0 L M ⟨d, .unOp .not t x, T, p, af, g⟩ (.bool (!b)) :=
  fun n a w h s _ _ => by simp [execOp, hx n a s, Op.unary]
theorem OpP.notT {t : TypeId} {x : Operand} (hx : Ev L x (.bool true)) : OpP P w0 L M ⟨d, .unOp .not t x, T, p, af, g⟩ (.bool false) := OpP.not hx
theorem OpP.notF {t : TypeId} {x : Operand} (hx : Ev L x (.bool false)) : OpP P w0 L M ⟨d, .unOp .not t x, T, p, af, g⟩ (.bool true) := OpP.not hx
theorem OpP.neg {t : TypeId} {x : Operand} {k : IntKind} {i : Int} (hx : Ev L x (.int k i)) : OpP P w0 L M ⟨d, .unOp .neg t x, T, p, af, g⟩ (.int k (k.wrap (0 - i))) :=
  fun n a w h s _ _ => by simp [execOp, hx n a s, Op.unary, Op.intArith]

/-! whole numbers -/
theorem eqGuard_int (op : BinOp) (t : TypeId) (x y : Operand) (k k' : IntKind) (i j : Int) (w : World) : (eqGuard op t x y (.int k i) (.int k' j)).run P w = .ok () w := by
  unfold eqGuard; cases op <;> rfl
theorem eqGuard_string (op : BinOp) (t : TypeId) (x y : Operand) (i j : ByteArray) (w : World) : (eqGuard op t x y (.string i) (.string j)).run P w = .ok () w := by
  unfold eqGuard; cases op <;> rfl
theorem OpP.eql {t u : TypeId} {x y : Operand} {k : IntKind} {i j : Int} (hx : Ev L x (.int k i)) (hy : Ev L y (.int k j)) : OpP P w0 L M ⟨d, .binOp .eql t x y u, T, p, af, g⟩ (.bool (i == j)) :=
  fun n a w h s _ _ => by simp [execOp, hx n a s, hy n a s, eqGuard_int, binOp, Op.intCmp]
theorem OpP.neq {t u : TypeId} {x y : Operand} {k : IntKind} {i j : Int} (hx : Ev L x (.int k i)) (hy : Ev L y (.int k j)) : OpP P w0 L M ⟨d, .binOp .neq t x y u, T, p, af, g⟩ (.bool (i != j)) :=
  fun n a w h s _ _ => by simp [execOp, hx n a s, hy n a s, eqGuard_int, binOp, Op.intCmp]
theorem OpP.lss {t u : TypeId} {x y : Operand} {k : IntKind} {i j : Int} (hx : Ev L x (.int k i)) (hy : Ev L y (.int k j)) : OpP P w0 L M ⟨d, .binOp .lss t x y u, T, p, af, g⟩ (.bool (decide (i < j))) :=
  fun n a w h s _ _ => by simp [execOp, hx n a s, hy n a s, eqGuard_int, binOp, Op.intCmp]
theorem OpP.leq {t u : TypeId} {x y : Operand} {k : IntKind} {i j : Int} (hx : Ev L x (.int k i)) (hy : Ev L y (.int k j)) : OpP P w0 L M ⟨d, .binOp .leq t x y u, T, p, af, g⟩ (.bool (decide (i ≤ j))) :=
  fun n a w h s _ _ => by simp [execOp, hx n a s, hy n a s, eqGuard_int, binOp, Op.intCmp]
theorem OpP.gtr {t u : TypeId} {x y : Operand} {k : IntKind} {i j : Int} (hx : Ev L x (.int k i)) (hy : Ev L y (.int k j)) : OpP P w0 L M ⟨d, .binOp .gtr t x y u, T, p, af, g⟩ (.bool (decide (i > j))) :=
  fun n a w h s _ _ => by simp [execOp, hx n a s, hy n a s, eqGuard_int, binOp, Op.intCmp]
theorem OpP.geq {t u : TypeId} {x y : Operand} {k : IntKind} {i j : Int} (hx : Ev L x (.int k i)) (hy : Ev L y (.int k j)) : OpP P w0 L M ⟨d, .binOp .geq t x y u, T, p, af, g⟩ (.bool (decide (i ≥ j))) :=
  fun n a w h s _ _ => by simp [execOp, hx n a s, hy n a s, eqGuard_int, binOp, Op.intCmp]
theorem OpP.add {t u : TypeId} {x y : Operand} {k : IntKind} {i j : Int} (hx : Ev L x (.int k i)) (hy : Ev L y (.int k j)) : OpP P w0 L M ⟨d, .binOp .add t x y u, T, p, af, g⟩ (.int k (k.wrap (i + j))) :=
  fun n a w h s _ _ => by simp [execOp, hx n a s, hy n a s, eqGuard_int, binOp, Op.intArith]
theorem OpP.sub {t u : TypeId} {x y : Operand} {k : IntKind} {i j : Int} (hx : Ev L x (.int k i)) (hy : Ev L y (.int k j)) : OpP P w0 L M ⟨d, .binOp .sub t x y u, T, p, af, g⟩ (.int k (k.wrap (i - j))) :=
  fun n a w h s _ _ => by simp [execOp, hx n a s, hy n a s, eqGuard_int, binOp, Op.intArith]
theorem OpP.mul {t u : TypeId} {x y : Operand} {k : IntKind} {i j : Int} (hx : Ev L x (.int k i)) (hy : Ev L y (.int k j)) : OpP P w0 L M ⟨d, .binOp .mul t x y u, T, p, af, g⟩ (.int k (k.wrap (i * j))) :=
  fun n a w h s _ _ => by simp [execOp, hx n a s, hy n a s, eqGuard_int, binOp, Op.intArith]
theorem OpP.quo {t u : TypeId} {x y : Operand} {k : IntKind} {i j : Int} (hx : Ev L x (.int k i)) (hy : Ev L y (.int k j)) (h0 : j ≠ 0) : OpP P w0 L M ⟨d, .binOp .quo t x y u, T, p, af, g⟩ (.int k (k.wrap (i.tdiv j))) :=
  fun n a w h s _ _ => by simp [execOp, hx n a s, hy n a s, eqGuard_int, binOp, Op.intDiv, h0]
theorem OpP.rem {t u : TypeId} {x y : Operand} {k : IntKind} {i j : Int} (hx : Ev L x (.int k i)) (hy : Ev L y (.int k j)) (h0 : j ≠ 0) : OpP P w0 L M ⟨d, .binOp .rem t x y u, T, p, af, g⟩ (.int k (i.tmod j)) :=
  fun n a w h s _ _ => by simp [execOp, hx n a s, hy n a s, eqGuard_int, binOp, Op.intDiv, h0]
def bitAnd (k : IntKind) (i j : Int) : Int := k.wrap (BitVec.ofInt k.bits i &&& BitVec.ofInt k.bits j).toNat
def bitOr (k : IntKind) (i j : Int) : Int := k.wrap (BitVec.ofInt k.bits i ||| BitVec.ofInt k.bits j).toNat
def bitXor (k : IntKind) (i j : Int) : Int := k.wrap (BitVec.ofInt k.bits i ^^^ BitVec.ofInt k.bits j).toNat
theorem OpP.and {t u : TypeId} {x y : Operand} {k : IntKind} {i j : Int} (hx : Ev L x (.int k i)) (hy : Ev L y (.int k j)) : OpP P w0 L M ⟨d, .binOp .and t x y u, T, p, af, g⟩ (.int k (bitAnd k i j)) :=
  fun n a w h s _ _ => by simp [execOp, hx n a s, hy n a s, eqGuard_int, binOp, Op.intBits, bitAnd]
theorem OpP.or {t u : TypeId} {x y : Operand} {k : IntKind} {i j : Int} (hx : Ev L x (.int k i)) (hy : Ev L y (.int k j)) : OpP P w0 L M ⟨d, .binOp .or t x y u, T, p, af, g⟩ (.int k (bitOr k i j)) :=
  fun n a w h s _ _ => by simp [execOp, hx n a s, hy n a s, eqGuard_int, binOp, Op.intBits, bitOr]
theorem OpP.xor {t u : TypeId} {x y : Operand} {k : IntKind} {i j : Int} (hx : Ev L x (.int k i)) (hy : Ev L y (.int k j)) : OpP P w0 L M ⟨d, .binOp .xor t x y u, T, p, af, g⟩ (.int k (bitXor k i j)) :=
  fun n a w h s _ _ => by simp [execOp, hx n a s, hy n a s, eqGuard_int, binOp, Op.intBits, bitXor]
def shlI (k : IntKind) (i j : Int) : Int := k.wrap (i * 2 ^ (min j.toNat k.bits))
def shrI (k : IntKind) (i j : Int) : Int := i.fdiv (2 ^ (min j.toNat k.bits))
theorem OpP.shl {t u : TypeId} {x y : Operand} {k k' : IntKind} {i j : Int} (hx : Ev L x (.int k i)) (hy : Ev L y (.int k' j)) (h0 : 0 ≤ j) : OpP P w0 L M ⟨d, .binOp .shl t x y u, T, p, af, g⟩ (.int k (shlI k i j)) :=
  fun n a w h s _ _ => by simp [execOp, hx n a s, hy n a s, eqGuard_int, binOp, Op.shift, shlI, show ¬ j < 0 by omega]
theorem OpP.shr {t u : TypeId} {x y : Operand} {k k' : IntKind} {i j : Int} (hx : Ev L x (.int k i)) (hy : Ev L y (.int k' j)) (h0 : 0 ≤ j) : OpP P w0 L M ⟨d, .binOp .shr t x y u, T, p, af, g⟩ (.int k (shrI k i j)) :=
  fun n a w h s _ _ => by simp [execOp, hx n a s, hy n a s, eqGuard_int, binOp, Op.shift, shrI, show ¬ j < 0 by omega]
class StrT (P : Program) (T : TypeId) : Prop where
  und : P.underlying T = some .string
theorem ba_data_inj {i j : ByteArray} (h : i.data.toList = j.data.toList) : i = j := by
  cases i with | mk i => cases j with | mk j =>
  congr 1
  exact Array.toList_inj.1 h
theorem OpP.sindex {t : TypeId} {x y : Operand} {b : ByteArray} {k : IntKind} {j : Nat} {c : Int} [q : StrT P t] (hx : Ev L x (.string b)) (hy : Ev L y (.int k (j : Int))) (hj : (b.data.toList[j]?).map (fun u => (u.toNat : Int)) = some c) :
    OpP P w0 L M ⟨d, .index t x y, T, p, af, g⟩ (.int .u8 c) := fun n a w h s _ _ => by
  obtain ⟨u, hu, rfl⟩ := Option.map_eq_some_iff.1 hj
  have hlt : j < b.size := by
    rcases Nat.lt_or_ge j b.size with h | h
    · exact h
    · rw [List.getElem?_eq_none (by simpa using h)] at hu; cases hu
  have e : b[j]? = some u := by
    have h1 : b[j]? = some b[j] := by simp [hlt]
    rw [h1]
    have h2 : b.data.toList[j]? = some (b[j]) := by
      rw [List.getElem?_eq_getElem (by simpa using hlt)]
      rfl
    rw [h2] at hu
    exact hu
  simp [execOp, hx n a s, hy n a s, Instr.index, asIntOf, run_und q.und, e]
theorem ba_eq (i j : ByteArray) : (i.toList == j.toList) = decide (i = j) := by
  rw [ByteArray.toList_eq, ByteArray.toList_eq, Bool.eq_iff_iff]
  simp only [beq_iff_eq, decide_eq_true_eq]
  exact ⟨ba_data_inj, fun h => by rw [h]⟩
theorem OpP.seql {t u : TypeId} {x y : Operand} {i j : ByteArray} (hx : Ev L x (.string i)) (hy : Ev L y (.string j)) : OpP P w0 L M ⟨d, .binOp .eql t x y u, T, p, af, g⟩ (.bool (decide (i = j))) :=
  fun n a w h s _ _ => by simp only [execOp, hx n a s, hy n a s, Sem.run_bind, eqGuard_string, binOp, Op.stringOp, Result.andThen_ok, Sem.run_pure, ba_eq]
theorem OpP.sneq {t u : TypeId} {x y : Operand} {i j : ByteArray} (hx : Ev L x (.string i)) (hy : Ev L y (.string j)) : OpP P w0 L M ⟨d, .binOp .neq t x y u, T, p, af, g⟩ (.bool (!decide (i = j))) :=
  fun n a w h s _ _ => by simp only [execOp, hx n a s, hy n a s, Sem.run_bind, eqGuard_string, binOp, Op.stringOp, Result.andThen_ok, Sem.run_pure, ba_eq]
class IntT (P : Program) (T : TypeId) (k : outParam IntKind) : Prop where
  und : P.underlying T = some (.int k)
class UndT (P : Program) (T : TypeId) : Prop where
  und : ∃ d, P.underlying T = some d
theorem OpP.convert {src dst : TypeId} {x : Operand} {k k' : IntKind} {i : Int} [q : UndT P src] [r : IntT P dst k] (hx : Ev L x (.int k' i)) : OpP P w0 L M ⟨d, .convert src dst x, T, p, af, g⟩ (.int k (k.wrap i)) :=
  fun n a w h s _ _ => by
    obtain ⟨dd, hd⟩ := q.und
    simp only [execOp, hx n a s, Go.convert, Sem.run_bind, run_und hd, run_und r.und, Result.andThen_ok]
    cases dd <;> simp [Conv.intToInt]

/-! slices -/
theorem OpP.len {ts : List TypeId} {t : TypeId} {x : Operand} {A : Option Addr} {l c E sz : Nat} [k : SliceT P t E sz] (hx : Ev L x (.slice A l c)) : OpP P w0 L M ⟨d, .call { callee := .builtin .len, args := #[x], argTypes := (t :: ts).toArray }, T, p, af, g⟩ (.int .i64 l) :=
  fun n a w h s _ _ => by simp [execOp, resolve, invoke, builtin, Builtin.len_, hx n a s, run_und k.und, goInt]
theorem OpP.slen {ts : List TypeId} {t : TypeId} {x : Operand} {b : ByteArray} [k : StrT P t] (hx : Ev L x (.string b)) : OpP P w0 L M ⟨d, .call { callee := .builtin .len, args := #[x], argTypes := (t :: ts).toArray }, T, p, af, g⟩ (.int .i64 b.size) :=
  fun n a w h s _ _ => by simp [execOp, resolve, invoke, builtin, Builtin.len_, hx n a s, run_und k.und, goInt]
/-- An element's address, the index a natural number. -/
theorem OpP.indexAddr {t : TypeId} {x i : Operand} {b o l c E sz : Nat} {k : IntKind} {j : Nat} [q : SliceT P t E sz] (hx : Ev L x (.slice (some ⟨b, o, none⟩) l c)) (hi : Ev L i (.int k (j : Int))) (hj : j < l) :
    OpP P w0 L M ⟨d, .indexAddr t x i, T, p, af, g⟩ (.pointer (some ⟨b, o + j * sz, none⟩)) :=
  fun n a w h s _ _ => by
    have h1 : (j : Int) < (l : Int) := by omega
    simp [execOp, hx n a s, hi n a s, Instr.indexAt, asIntOf, run_und q.und, q.sz, h1, add_plain', hj, show ¬ l ≤ j by omega]
/-- The same at a constant index. -/
theorem OpP.indexAddrC {t : TypeId} {x : Operand} {b o l c E sz : Nat} {k : IntKind} {z : Int} (j : Nat) [q : SliceT P t E sz] (hx : Ev L x (.slice (some ⟨b, o, none⟩) l c)) (hz : z = (j : Int)) (hj : j < l) (r : Nat) (hr : o + j * sz = r) :
    OpP P w0 L M ⟨d, .indexAddr t x (.const (.int k z)), T, p, af, g⟩ (.pointer (some ⟨b, r, none⟩)) := by
  subst hz; subst hr
  exact OpP.indexAddr hx Ev.const hj

/-! reads -/
/-- In every memory of M (over the base) the cells vs stand at block b from o on. -/
def HasAt (w0 : World) (M : List HProp) (b o : Nat) (vs : List Value) : Prop := ∀ w h, star M h → Sat w0 w h → ∀ j v, vs[j]? = some v → w.cell? ⟨b, o + j, none⟩ = some v
theorem HasAt.heap {w : World} {b o : Nat} {E : TypeId} {fr : Nat × Nat} {cs vs : List Value} (e : w.heap[b]? = some (.cells cs.toArray E fr)) (k : ∀ j v, vs[j]? = some v → cs[o + j]? = some v) : ∀ j v, vs[j]? = some v → w.cell? ⟨b, o + j, none⟩ = some v := by
  intro j v hv
  simp [World.cell?, e, k j v hv]
theorem HasAt.pt {b o : Nat} {E : TypeId} {fr : Nat × Nat} {cs vs : List Value} {M' : List HProp} (t : Takes M [Go.Proofs.YtgmapenlgammfaaGreatDoor.pt b (.cells cs.toArray E fr)] M') (k : ∀ j v, vs[j]? = some v → cs[o + j]? = some v) : HasAt w0 M b o vs :=
  fun _ h m s => HasAt.heap (s.pt (t h m)) k
theorem HasAt.ro {b o : Nat} {E : TypeId} {fr : Nat × Nat} {cs vs : List Value} {M' : List HProp} (t : Takes M [Go.Proofs.YtgmapenlgammfaaGreatDoor.ro b (.cells cs.toArray E fr)] M') (k : ∀ j v, vs[j]? = some v → cs[o + j]? = some v) : HasAt w0 M b o vs :=
  fun _ h m s => HasAt.heap (s.ro (t h m)) k
theorem HasAt.gives {b o : Nat} {vs : List Value} {M' : List HProp} (k : HasAt w0 M b o vs) (g : Gives M' M) : HasAt w0 M' b o vs := fun w h m s => k w h (g h m) s
theorem HasAt.app {b o : Nat} {vs : List Value} (k : HasAt w0 M b o vs) (F : List HProp) : HasAt w0 (M ++ F) b o vs := fun w h m s => by
  obtain ⟨h1, h2, l1, l2, _, m1, _⟩ := m.split
  exact k w h1 m1 (s.le l1)
theorem HasAt.sub {b o o' : Nat} {vs us : List Value} (k : HasAt w0 M b o vs) (e : ∀ j v, us[j]? = some v → ∃ i, o + i = o' + j ∧ vs[i]? = some v) : HasAt w0 M b o' us := fun w h m s j v hv => by
  obtain ⟨i, h1, h2⟩ := e j v hv
  rw [← h1]
  exact k w h m s i v h2
/-- Cells of the base. -/
def Base (w0 : World) (b o : Nat) (vs : List Value) : Prop := ∀ j v, vs[j]? = some v → w0.cell? ⟨b, o + j, none⟩ = some v
theorem cell_base {w0 w : World} {h : Frag} (s : Sat w0 w h) {ad : Addr} {v : Value} (e : w0.cell? ad = some v) : w.cell? ad = some v := by
  have hlt : ad.block < w0.heap.size := World.block_lt_of_cell? w0 ad e
  unfold World.cell? at e ⊢
  rw [s.base _ hlt]
  exact e
theorem HasAt.base {b o : Nat} {vs : List Value} (k : Base w0 b o vs) : HasAt w0 M b o vs := fun _ _ _ s j v hv => cell_base s (k j v hv)
theorem at1 {cs : List Value} {o : Nat} {v : Value} (h : cs[o]? = some v) : ∀ j u, [v][j]? = some u → cs[o + j]? = some u := by
  intro j u hu
  rcases j with _ | j
  · simp at hu; subst hu; simpa using h
  · simp at hu
theorem atAll {cs : List Value} : ∀ j u, cs[j]? = some u → cs[0 + j]? = some u := fun j u hu => by simpa using hu
theorem atSeg {cs vs : List Value} {o k : Nat} (h : (cs.drop o).take k = vs) : ∀ j u, vs[j]? = some u → cs[o + j]? = some u := by
  intro j u hu
  subst h
  have hj : j < k := by
    rcases Nat.lt_or_ge j k with x | x
    · exact x
    · rw [List.getElem?_take_eq_none x] at hu; cases hu
  rw [List.getElem?_take_of_lt hj, List.getElem?_drop] at hu
  exact hu

theorem run_loadVar_sca {w : World} {t b o : Nat} {v : Value} [k : Sca P t] (h : w.cell? ⟨b, o, none⟩ = some v) : (loadVar t ⟨b, o, none⟩).run P w = .ok v w := by
  simp [loadVar, k.agg, h]
theorem run_loadVar_agg {w : World} {t b o n : Nat} {vs : List Value} [k : AggT P t n] (hn : vs.length = n) (h : ∀ j v, vs[j]? = some v → w.cell? ⟨b, o + j, none⟩ = some v) : (loadVar t ⟨b, o, none⟩).run P w = .ok (.agg vs.toArray) w := by
  subst hn
  have := run_loadCells_list (P := P) w ⟨b, o, none⟩ vs (fun j v e => by rw [add_plain']; exact h j v e)
  simp [loadVar, k.agg, k.sz, this]
theorem OpP.load {t : TypeId} {x : Operand} {b o : Nat} {v : Value} [k : Sca P t] (hx : Ev L x (.pointer (some ⟨b, o, none⟩))) (hm : HasAt w0 M b o [v]) : OpP P w0 L M ⟨d, .load t x, T, p, af, g⟩ v :=
  fun n a w h s m sa => by
    have hc := hm w h m sa 0 v rfl
    simp [execOp, hx n a s, Instr.loadAt, Instr.sureAddr, run_loadVar_sca (P := P) (t := t) (by simpa using hc)]
theorem OpP.loadA {t : TypeId} {x : Operand} {b o q : Nat} {vs : List Value} [k : AggT P t q] (hx : Ev L x (.pointer (some ⟨b, o, none⟩))) (hm : HasAt w0 M b o vs) (hn : vs.length = q) : OpP P w0 L M ⟨d, .load t x, T, p, af, g⟩ (.agg vs.toArray) :=
  fun n a w h s m sa => by
    simp [execOp, hx n a s, Instr.loadAt, Instr.sureAddr, run_loadVar_agg (P := P) (t := t) hn (hm w h m sa)]
/-- A part of a block. -/
theorem OpP.loadSr {t : TypeId} {x : Operand} {b o q : Nat} {E : TypeId} {fr : Nat × Nat} {cs : List Value} {M' : List HProp} [k : AggT P t q] (hx : Ev L x (.pointer (some ⟨b, o, none⟩))) (hm : Takes M [Go.Proofs.YtgmapenlgammfaaGreatDoor.ro b (.cells cs.toArray E fr)] M') (hn : Nat.ble (o + q) cs.length = true) : OpP P w0 L M ⟨d, .load t x, T, p, af, g⟩ (.agg ((cs.drop o).take q).toArray) :=
  OpP.loadA hx (HasAt.ro hm (atSeg (k := q) rfl)) (by rw [List.length_take, List.length_drop]; exact Nat.min_eq_left (by have := Nat.le_of_ble_eq_true hn; omega))
theorem OpP.loadSp {t : TypeId} {x : Operand} {b o q : Nat} {E : TypeId} {fr : Nat × Nat} {cs : List Value} {M' : List HProp} [k : AggT P t q] (hx : Ev L x (.pointer (some ⟨b, o, none⟩))) (hm : Takes M [Go.Proofs.YtgmapenlgammfaaGreatDoor.pt b (.cells cs.toArray E fr)] M') (hn : Nat.ble (o + q) cs.length = true) : OpP P w0 L M ⟨d, .load t x, T, p, af, g⟩ (.agg ((cs.drop o).take q).toArray) :=
  OpP.loadA hx (HasAt.pt hm (atSeg (k := q) rfl)) (by rw [List.length_take, List.length_drop]; exact Nat.min_eq_left (by have := Nat.le_of_ble_eq_true hn; omega))
/-- A field of a value. -/
theorem OpP.field {S f off FT : Nat} {x : Operand} {cs : List Value} {v : Value} [k : FldT P S f off FT] [q : Sca P FT] (hx : Ev L x (.agg cs.toArray)) (hv : cs[off]? = some v) : OpP P w0 L M ⟨d, .field S x f, T, p, af, g⟩ v :=
  fun n a w h s _ _ => by simp [execOp, hx n a s, k.val, part, q.agg, hv]
theorem OpP.fieldA {S f off FT z : Nat} {x : Operand} {cs vs : List Value} [k : FldT P S f off FT] [q : AggT P FT z] (hx : Ev L x (.agg cs.toArray)) (hv : (cs.drop off).take z = vs) : OpP P w0 L M ⟨d, .field S x f, T, p, af, g⟩ (.agg vs.toArray) :=
  fun n a w h s _ _ => by
    subst hv
    simp [execOp, hx n a s, k.val, part, q.agg, q.sz]
theorem OpP.makeInterface {t : TypeId} {x : Operand} {v : Value} [k : NotIface P t] (hx : Ev L x v) : OpP P w0 L M ⟨d, .makeInterface t x, T, p, af, g⟩ (.iface t v) :=
  fun n a w h s _ _ => by simp [execOp, hx n a s, k.run]
theorem OpP.build {t : TypeId} {ps : List (Nat × Operand)} {xs : List Operand} {vs : List Value} {r : Value} (hx : EvL L xs vs) (hp : ps.map (·.2) = xs) (hr : ∀ w, (Instr.build t ((ps.map (·.1)).zip vs).toArray).run P w = .ok r w) : OpP P w0 L M ⟨d, .build t ps.toArray, T, p, af, g⟩ r :=
  fun n a w h s _ _ => by
    have e : ps.map (fun q => (q.1, a.eval q.2)) = (ps.map (·.1)).zip vs := by
      rw [← hx.map s, ← hp, List.map_map]
      clear hr hp
      induction ps with
      | nil => rfl
      | cons q r ih => simp_all
    have e' : (ps.toArray.map fun q => (q.1, a.eval q.2)) = ((ps.map (·.1)).zip vs).toArray := by simp [e]
    have hrr := hr w
    simp only [execOp]
    have e2 : (Array.map (fun x : Nat × Operand => match x with | (i, x) => (i, a.eval x)) ps.toArray) = ((ps.map (·.1)).zip vs).toArray := e'
    rw [e2]
    simp [hrr]
theorem OpP.buildA {t : TypeId} {ps : List (Nat × Operand)} {xs : List Operand} {vs : List Value} (hp : ps.map (·.2) = xs) (hx : EvL L xs vs) (hr : ∀ w, (Instr.build t ((ps.map (·.1)).zip vs).toArray).run P w = .ok (.agg vs.toArray) w) : OpP P w0 L M ⟨d, .build t ps.toArray, T, p, af, g⟩ (.agg vs.toArray) := OpP.build hx hp hr
end

/-! ### in a region in the text's order -/
section
variable {P : Program} {w0 : World} {n : Nat} {ops : Array Oper} {Q : Exit → Act → World → Prop} {L : Env} {M : List HProp} {l : List Oper} {op : Op} {T : TypeId} {p : String} {af : Array Edge}
theorem RL.pur {d : Nat} {v : Value} (hp : OpP P w0 L M ⟨some d, op, T, p, af, none⟩ v) (hd : Nat.blt d n = true) (k : RL P w0 n ops Q l ((d, v) :: L) M) : RL P w0 n ops Q (⟨some d, op, T, p, af, none⟩ :: l) L M :=
  fun a w h s m sa => wpList_plain rfl fun K hK => by
    have hr := hp n a w h s m sa
    simp only [Oper.wp, hr, Oper.upon]
    exact hK _ _ (k _ w h (s.put v hd) m sa)

/-- What an operation that may turn the memory comes to. -/
def ResS (P : Program) (w0 : World) (K : Value → List HProp → Prop) (KP : List PanicEntry → List HProp → Prop) : Result Next → Prop
  | .ok (.value v) w' => ∃ M' h', K v M' ∧ star M' h' ∧ Sat w0 w' h'
  | .ok .skip w' => ∃ M' h', K undef M' ∧ star M' h' ∧ Sat w0 w' h'
  | .ok (.enter f args) w' => Calls P f args w' fun
    | .returned v, w'' => ∃ M' h', K v M' ∧ star M' h' ∧ Sat w0 w'' h'
    | .panicked c, w'' => ∃ M' h', KP c M' ∧ star M' h' ∧ Sat w0 w'' h'
    | .outgrown, _ => False
  | .halt (.panic v) w' => ∃ M' h', KP [{ v, recovered := false }] M' ∧ star M' h' ∧ Sat w0 w' h'
  | _ => False
def OpS (P : Program) (w0 : World) (L : Env) (M : List HProp) (o : Oper) (K : Value → List HProp → Prop) (KP : List PanicEntry → List HProp → Prop) : Prop :=
  ∀ n a w h, St n L a → star M h → Sat w0 w h → ResS P w0 K KP ((execOp a.eval o).run P w)
/-- No panic. -/
abbrev noP : List PanicEntry → List HProp → Prop := fun _ _ => False

theorem upon_of {o : Oper} {a : Act} {next : Act → World → Prop} {Q : Exit → Act → World → Prop} {K : Value → List HProp → Prop} {KP : List PanicEntry → List HProp → Prop} {r : Result Next}
    (hr : ResS P w0 K KP r) (kn : ∀ v M' h' w', K v M' → star M' h' → Sat w0 w' h' → next (a.put o.dst v) w') (kp : ∀ c M' h' w', KP c M' → star M' h' → Sat w0 w' h' → Q (.panic c) a w') : o.upon P a next Q r := by
  cases r with
  | ok x w' =>
    cases x <;> simp only [ResS] at hr <;> try exact hr.elim
    · obtain ⟨M', h', k, m, s⟩ := hr; exact kn _ M' h' w' k m s
    · obtain ⟨M', h', k, m, s⟩ := hr; exact kn _ M' h' w' k m s
    · refine Calls.mono hr (fun e w'' he => ?_)
      cases e with
      | returned v => obtain ⟨M', h', k, m, s⟩ := he; exact kn _ M' h' w'' k m s
      | panicked c => obtain ⟨M', h', k, m, s⟩ := he; exact kp _ M' h' w'' k m s
      | outgrown => exact he.elim
  | halt x w' =>
    cases x <;> simp only [ResS] at hr <;> try exact hr.elim
    obtain ⟨M', h', k, m, s⟩ := hr
    exact kp _ M' h' w' k m s

theorem RL.s {d : Nat} {K : Value → List HProp → Prop} {KP : List PanicEntry → List HProp → Prop} (hp : OpS P w0 L M ⟨some d, op, T, p, af, none⟩ K KP) (hd : Nat.blt d n = true)
    (k : ∀ v M', K v M' → RL P w0 n ops Q l ((d, v) :: L) M') (kp : ∀ c M', KP c M' → XJ w0 n (.panic c) Q L M') : RL P w0 n ops Q (⟨some d, op, T, p, af, none⟩ :: l) L M :=
  fun a w h s m sa => wpList_plain rfl fun K hK => by
    unfold Oper.wp
    exact upon_of (hp n a w h s m sa) (fun v M' h' w' kk mm ss => hK _ _ (k v M' kk _ w' h' (s.put v hd) mm ss)) (fun c M' h' w' kk mm ss => kp c M' kk a w' h' s mm ss)
theorem RL.s0 {K : Value → List HProp → Prop} {KP : List PanicEntry → List HProp → Prop} (hp : OpS P w0 L M ⟨none, op, T, p, af, none⟩ K KP)
    (k : ∀ v M', K v M' → RL P w0 n ops Q l L M') (kp : ∀ c M', KP c M' → XJ w0 n (.panic c) Q L M') : RL P w0 n ops Q (⟨none, op, T, p, af, none⟩ :: l) L M :=
  fun a w h s m sa => wpList_plain rfl fun K hK => by
    unfold Oper.wp
    exact upon_of (hp n a w h s m sa) (fun v M' h' w' kk mm ss => hK _ _ (k v M' kk _ w' h' s mm ss)) (fun c M' h' w' kk mm ss => kp c M' kk a w' h' s mm ss)

/-! guards -/
theorem RL.guardT {d : Option Tmp} {j t : Nat} {b : Bool} (hj : (ops[j]?).bind (·.dst) = some t) (ht : L.get t = some (.bool b)) (k : RL P w0 n ops Q (⟨d, op, T, p, af, none⟩ :: l) L M) : RL P w0 n ops Q (⟨d, op, T, p, af, some (j, b)⟩ :: l) L M :=
  fun a w h s m sa => by
    have hk := k a w h s m sa
    unfold wpList at hk ⊢
    have hw : Region.wanted ⟨d, op, T, p, af, some (j, b)⟩ (yielded ops a.tmps) = true := by
      simp [Region.wanted, yielded, hj, s.ok t _ ht]
    rw [if_pos hw]
    rw [if_pos (by simp [Region.wanted])] at hk
    exact hk
theorem RL.guardF {d j t : Nat} {b b' : Bool} (hj : (ops[j]?).bind (·.dst) = some t) (ht : L.get t = some (.bool b)) (hb : (b == b') = false) (hd : Nat.blt d n = true) (k : RL P w0 n ops Q l ((d, undef) :: L) M) : RL P w0 n ops Q (⟨some d, op, T, p, af, some (j, b')⟩ :: l) L M :=
  fun a w h s m sa => by
    have hne : b ≠ b' := by simpa using hb
    unfold wpList
    have hw : ¬ Region.wanted ⟨some d, op, T, p, af, some (j, b')⟩ (yielded ops a.tmps) = true := by
      simp [Region.wanted, yielded, hj, s.ok t _ ht, hne]
    rw [if_neg hw]
    exact k _ w h (s.put undef hd) m sa
end

section
variable {P : Program} {w0 : World} {n : Nat} {ops : Array Oper} {Q : Exit → Act → World → Prop} {L : Env} {M : List HProp} {l : List Oper} {op : Op} {T : TypeId} {p : String} {af : Array Edge}
/-- The guard's own operation was passed over. -/
theorem RL.guardU {d j t : Nat} {b' : Bool} (hj : (ops[j]?).bind (·.dst) = some t) (ht : L.get t = some undef) (hd : Nat.blt d n = true) (k : RL P w0 n ops Q l ((d, undef) :: L) M) : RL P w0 n ops Q (⟨some d, op, T, p, af, some (j, b')⟩ :: l) L M :=
  fun a w h s m sa => by
    unfold wpList
    have hw : ¬ Region.wanted ⟨some d, op, T, p, af, some (j, b')⟩ (yielded ops a.tmps) = true := by
      simp [Region.wanted, yielded, hj, s.ok t _ ht, undef]
    rw [if_neg hw]
    exact k _ w h (s.put undef hd) m sa
end

/-! ### operations that turn the memory -/
section
variable {P : Program} {w0 : World} {L : Env} {M : List HProp} {d : Option Tmp} {T : TypeId} {p : String} {af : Array Edge} {g : Option (Nat × Bool)}
/-- What holds behind. -/
theorem OpS.mono {o : Oper} {K K' : Value → List HProp → Prop} {KP KP' : List PanicEntry → List HProp → Prop} (h : OpS P w0 L M o K KP) (k : ∀ v M', K v M' → K' v M') (kp : ∀ c M', KP c M' → KP' c M') : OpS P w0 L M o K' KP' := by
  intro n a w hh s m sa
  have := h n a w hh s m sa
  generalize (execOp a.eval o).run P w = r at this ⊢
  cases r with
  | ok x w' =>
    cases x <;> simp only [ResS] at this ⊢ <;> try exact this.elim
    · obtain ⟨M', h', kk, mm, ss⟩ := this; exact ⟨M', h', k _ _ kk, mm, ss⟩
    · obtain ⟨M', h', kk, mm, ss⟩ := this; exact ⟨M', h', k _ _ kk, mm, ss⟩
    · refine Calls.mono this (fun e w'' he => ?_)
      cases e with
      | returned v => obtain ⟨M', h', kk, mm, ss⟩ := he; exact ⟨M', h', k _ _ kk, mm, ss⟩
      | panicked c => obtain ⟨M', h', kk, mm, ss⟩ := he; exact ⟨M', h', kp _ _ kk, mm, ss⟩
      | outgrown => exact he.elim
  | halt x w' =>
    cases x <;> simp only [ResS] at this ⊢ <;> try exact this.elim
    obtain ⟨M', h', kk, mm, ss⟩ := this
    exact ⟨M', h', kp _ _ kk, mm, ss⟩
theorem OpS.box {t : TypeId} {x : Operand} {vs : List Value} (hx : Ev L x (.agg vs.toArray)) : OpS P w0 L M ⟨d, .box t x, T, p, af, g⟩ (fun v M' => ∃ b, v = .pointer (some ⟨b, 0, none⟩) ∧ M' = cel b t vs :: M) noP :=
  fun n a w h s m sa => by
    obtain ⟨h', m', s'⟩ := sa.push m (.cells vs.toArray t (0, 0))
    simp only [execOp, Instr.box, newVar, newRow, newObj, Sem.run_bind, Sem.run, Result.andThen_ok, hx n a s, Value.cells, Sem.run_pure, Sem.run_pure', ResS]
    exact ⟨_, h', ⟨_, rfl, rfl⟩, m', s'⟩
theorem OpS.box1 {t : TypeId} {x : Operand} {v : Value} (hx : Ev L x v) (hv : v.cells = #[v]) : OpS P w0 L M ⟨d, .box t x, T, p, af, g⟩ (fun u M' => ∃ b, u = .pointer (some ⟨b, 0, none⟩) ∧ M' = cel b t [v] :: M) noP :=
  fun n a w h s m sa => by
    obtain ⟨h', m', s'⟩ := sa.push m (.cells #[v] t (0, 0))
    simp only [execOp, Instr.box, newVar, newRow, newObj, Sem.run_bind, Sem.run, Result.andThen_ok, hx n a s, hv, Sem.run_pure, Sem.run_pure', ResS]
    exact ⟨_, h', ⟨_, rfl, rfl⟩, m', s'⟩
theorem OpS.alloc {t : TypeId} {vs : List Value} {z : Value} [k : ZeroT P t z] (hz : z.cells = vs.toArray) : OpS P w0 L M ⟨d, .alloc t, T, p, af, g⟩ (fun u M' => ∃ b, u = .pointer (some ⟨b, 0, none⟩) ∧ M' = cel b t vs :: M) noP :=
  fun n a w h s m sa => by
    obtain ⟨h', m', s'⟩ := sa.push m (.cells vs.toArray t (0, 0))
    simp only [execOp, Instr.alloc, newVar, newRow, newObj, Sem.run_bind, Sem.run, Result.andThen_ok, k.run, hz, Sem.run_pure, Sem.run_pure', ResS]
    exact ⟨_, h', ⟨_, rfl, rfl⟩, m', s'⟩
/-- A store into a block of one's own. -/
def setSeg (cs vs : List Value) (o : Nat) : List Value := cs.take o ++ vs ++ cs.drop (o + vs.length)
theorem run_storeVar_at {w : World} {t b o q : Nat} {E : TypeId} {cs vs : List Value} {v : Value} (hq : (sizeOf t).run P w = .ok q w) (hv : v.cells = vs.toArray) (hn : vs.length = q) (h1 : ∀ u ∈ vs, u.oneCell' = true) (hb : w.heap[b]? = some (.cells cs.toArray E (0, 0))) (hl : o + vs.length ≤ cs.length) :
    (storeVar t ⟨b, o, none⟩ v).run P w = .ok () (w.setRow b (setSeg cs vs o).toArray) := by
  have hs := run_storeCells_at (P := P) b o E vs 0 cs.toArray w hb (by simpa using hl) h1
  simp only [Nat.add_zero] at hs
  subst hn
  simp only [storeVar, Sem.run_bind, hq, Result.andThen_ok, hv]
  simpa [setSeg] using hs
theorem Sat.setRow {w : World} {h : Frag} {b : Nat} {E : TypeId} {cs cs' : List Value} {M' : List HProp} (s : Sat w0 w h) (m : star (cel b E cs :: M') h) : ∃ h', star (cel b E cs' :: M') h' ∧ Sat w0 (w.setRow b cs'.toArray) h' := by
  have hb := s.pt m
  refine s.put m rfl rfl rfl ?_ ?_ ?_
  · simp [World.setRow]
  · intro i hi
    simp [World.setRow, Array.getElem?_modify, Ne.symm hi]
  · exact setRow_heap w b _ _ E (0, 0) hb
theorem OpS.store {t : TypeId} {x y : Operand} {b o : Nat} {E : TypeId} {cs : List Value} {v : Value} {M' : List HProp} [k : Sca P t] (hx : Ev L x (.pointer (some ⟨b, o, none⟩))) (hy : Ev L y v) (hv : v.cells = #[v]) (h1 : v.oneCell' = true) (hm : Takes M [cel b E cs] M') (ho : o < cs.length) :
    OpS P w0 L M ⟨d, .store t x y, T, p, af, g⟩ (fun _ M'' => M'' = cel b E (setSeg cs [v] o) :: M') noP :=
  fun n a w h s m sa => by
    have hr := run_storeVar_at (P := P) (o := o) (k.sz w) (show v.cells = [v].toArray from hv) rfl (by simpa using h1) (sa.pt (hm h m)) (by simp; omega)
    obtain ⟨h', m', s'⟩ := sa.setRow (cs' := setSeg cs [v] o) (hm h m)
    simp only [execOp, hx n a s, hy n a s, Instr.storeAt, Instr.sureAddr, Sem.run_bind, Sem.run_pure, Result.andThen_ok, hr, ResS]
    exact ⟨_, h', rfl, m', s'⟩
theorem OpS.storeA {t : TypeId} {x y : Operand} {b o q : Nat} {E : TypeId} {cs vs : List Value} {M' : List HProp} [k : AggT P t q] (hx : Ev L x (.pointer (some ⟨b, o, none⟩))) (hy : Ev L y (.agg vs.toArray)) (hn : vs.length = q) (h1 : ∀ u ∈ vs, u.oneCell' = true) (hm : Takes M [cel b E cs] M') (ho : o + q ≤ cs.length) :
    OpS P w0 L M ⟨d, .store t x y, T, p, af, g⟩ (fun _ M'' => M'' = cel b E (setSeg cs vs o) :: M') noP :=
  fun n a w h s m sa => by
    have hr := run_storeVar_at (P := P) (o := o) (v := .agg vs.toArray) (k.sz w) rfl hn h1 (sa.pt (hm h m)) (by omega)
    obtain ⟨h', m', s'⟩ := sa.setRow (cs' := setSeg cs vs o) (hm h m)
    simp only [execOp, hx n a s, hy n a s, Instr.storeAt, Instr.sureAddr, Sem.run_bind, Sem.run_pure, Result.andThen_ok, hr, ResS]
    exact ⟨_, h', rfl, m', s'⟩

/-- A slice literal: vs' are the cells of its elements. -/
theorem OpS.buildSlice {t E : TypeId} {len : Nat} {ps : List (Nat × Operand)} {xs : List Operand} {vs : List Value} (vs' : List Value) (hp : ps.map (·.2) = xs) (hx : EvL L xs vs)
    (hr : ∀ w : World, (Instr.buildSlice t len ((ps.map (·.1)).zip vs).toArray).run P w = .ok (.slice (some ⟨w.heap.size, 0, none⟩) len len) { w with heap := w.heap.push (.cells vs'.toArray E (0, 0)) }) :
    OpS P w0 L M ⟨d, .buildSlice t len ps.toArray, T, p, af, g⟩ (fun v N => ∃ b, v = .slice (some ⟨b, 0, none⟩) len len ∧ N = cel b E vs' :: M) noP :=
  fun n a w h s m sa => by
    have e : ps.map (fun q => (q.1, a.eval q.2)) = (ps.map (·.1)).zip vs := by
      rw [← hx.map s, ← hp, List.map_map]
      clear hr hp
      induction ps with
      | nil => rfl
      | cons q r ih => simp_all
    have e' : (ps.toArray.map fun q => (q.1, a.eval q.2)) = ((ps.map (·.1)).zip vs).toArray := by simp [e]
    have hrr := hr w
    have e2 : (Array.map (fun x : Nat × Operand => match x with | (i, x) => (i, a.eval x)) ps.toArray) = ((ps.map (·.1)).zip vs).toArray := e'
    obtain ⟨h', m', s'⟩ := sa.push m (.cells vs'.toArray E (0, 0))
    simp only [execOp]
    rw [e2]
    simp only [Sem.run_bind, hrr, Result.andThen_ok, Sem.run_pure, ResS]
    exact ⟨_, h', ⟨_, rfl, rfl⟩, m', s'⟩
/-! calls -/
def Ret (K : Value → List HProp → Prop) (KP : List PanicEntry → List HProp → Prop) : Ending → List HProp → Prop
  | .returned v, N => K v N
  | .panicked c, N => KP c N
  | .outgrown, _ => False
theorem OpS.call {f : Operand} {k : FuncId} {first cap : List Value} {xs : List Operand} {vs : List Value} {ts : Array TypeId} {K : Value → List HProp → Prop} {KP : List PanicEntry → List HProp → Prop} {pre M' : List HProp} 
    (hf : Ev L f (.func (.func k) first.toArray cap.toArray)) (c : CallT P k) (hx : EvL L xs vs) (hm : Takes M pre M') (hs : Spec P w0 k (first ++ vs ++ cap).toArray pre (Ret K KP)) :
    OpS P w0 L M ⟨d, .call { callee := .value f, args := xs.toArray, argTypes := ts }, T, p, af, g⟩ (fun v N => ∃ N', K v N' ∧ N = N' ++ M') (fun c N => ∃ N', KP c N' ∧ N = N' ++ M') :=
  fun n a w h s m sa => by
    have e : (execOp a.eval ⟨d, .call { callee := .value f, args := xs.toArray, argTypes := ts }, T, p, af, g⟩).run P w = .ok (.enter k (first ++ vs ++ cap).toArray) w := by
      simp [execOp, resolve, Deferred.ofValue, hf n a s, invoke, c.run, hx.map s]
    rw [e]
    simp only [ResS]
    refine (hs M' w h (hm h m) sa).mono ?_
    rintro e w' ⟨N, h', r, m', s'⟩
    cases e with
    | returned v => exact ⟨_, h', ⟨N, r, rfl⟩, m', s'⟩
    | panicked c => exact ⟨_, h', ⟨N, r, rfl⟩, m', s'⟩
    | outgrown => exact r.elim
/-- The contract of a function that only computes: it returns x. -/
abbrev Is (x : Value) : Ending → List HProp → Prop := Ret (fun v N => v = x ∧ N = []) noP
/-- It returns or panics, as r says. -/
abbrev IsE (r : Except (List PanicEntry) Value) : Ending → List HProp → Prop := Ret (fun v N => r = .ok v ∧ N = []) (fun c N => r = .error c ∧ N = [])
theorem OpS.callIs {f : Operand} {k : FuncId} {first cap : List Value} {xs : List Operand} {vs : List Value} {ts : Array TypeId} {x : Value} 
    (hf : Ev L f (.func (.func k) first.toArray cap.toArray)) (c : CallT P k) (hx : EvL L xs vs) (hs : Spec P w0 k (first ++ vs ++ cap).toArray [] (Is x)) :
    OpS P w0 L M ⟨d, .call { callee := .value f, args := xs.toArray, argTypes := ts }, T, p, af, g⟩ (fun v N => v = x ∧ N = M) noP :=
  (OpS.call hf c hx (Takes.nil _) hs).mono (fun v M' ⟨N', ⟨h1, h2⟩, h3⟩ => ⟨h1, by subst h2; simpa using h3⟩) (fun _ _ ⟨_, h, _⟩ => h)
theorem OpS.callE {f : Operand} {k : FuncId} {first cap : List Value} {xs : List Operand} {vs : List Value} {ts : Array TypeId} {r : Except (List PanicEntry) Value} 
    (hf : Ev L f (.func (.func k) first.toArray cap.toArray)) (c : CallT P k) (hx : EvL L xs vs) (hs : Spec P w0 k (first ++ vs ++ cap).toArray [] (IsE r)) :
    OpS P w0 L M ⟨d, .call { callee := .value f, args := xs.toArray, argTypes := ts }, T, p, af, g⟩ (fun v N => r = .ok v ∧ N = M) (fun c N => r = .error c ∧ N = M) :=
  (OpS.call hf c hx (Takes.nil _) hs).mono (fun v M' ⟨N', ⟨h1, h2⟩, h3⟩ => ⟨h1, by subst h2; simpa using h3⟩) (fun c M' ⟨N', ⟨h1, h2⟩, h3⟩ => ⟨h1, by subst h2; simpa using h3⟩)
theorem OpS.panic {x : Operand} {t : TypeId} {v : Value} (hx : Ev L x (.iface t v)) (hr : ∀ w, (Instr.panic (.iface t v)).run P w = .halt (.panic (.iface t v)) w) : OpS P w0 L M ⟨d, .panic x, T, p, af, g⟩ (fun _ _ => False) (fun c N => c = [{ v := .iface t v, recovered := false }] ∧ N = M) :=
  fun n a w h s m sa => by
    have e : (execOp a.eval ⟨d, .panic x, T, p, af, g⟩).run P w = .halt (.panic (.iface t v)) w := by simp only [execOp, hx n a s, Sem.run_bind, hr, Result.andThen_halt]
    rw [e]
    exact ⟨M, h, ⟨rfl, rfl⟩, m, sa⟩
end

section
variable {P : Program} {w0 : World} {n : Nat} {ops : Array Oper} {Q : Exit → Act → World → Prop} {L : Env} {M : List HProp} {l : List Oper} {T : TypeId} {p : String} {af : Array Edge}
theorem RL.callIs {d : Nat} {f : Operand} {k : FuncId} {first cap : List Value} {xs : List Operand} {vs : List Value} {ts : Array TypeId} {x : Value} 
    (hf : Ev L f (.func (.func k) first.toArray cap.toArray)) (c : CallT P k) (hx : EvL L xs vs) (hs : Spec P w0 k (first ++ vs ++ cap).toArray [] (Is x)) (hd : Nat.blt d n = true) (kk : RL P w0 n ops Q l ((d, x) :: L) M) :
    RL P w0 n ops Q (⟨some d, .call { callee := .value f, args := xs.toArray, argTypes := ts }, T, p, af, none⟩ :: l) L M :=
  RL.s (OpS.callIs hf c hx hs) hd (by rintro _ _ ⟨rfl, rfl⟩; exact kk) (fun _ _ h => h.elim)
theorem RL.callK {d : Nat} {f : Operand} {k : FuncId} {first cap : List Value} {xs : List Operand} {vs : List Value} {ts : Array TypeId} {K : Value → List HProp → Prop} {pre M' : List HProp}
    (hf : Ev L f (.func (.func k) first.toArray cap.toArray)) (c : CallT P k) (hx : EvL L xs vs) (hm : Takes M pre M') (hs : Spec P w0 k (first ++ vs ++ cap).toArray pre (Ret K noP)) (hd : Nat.blt d n = true)
    (kk : ∀ v N, K v N → RL P w0 n ops Q l ((d, v) :: L) (N ++ M')) :
    RL P w0 n ops Q (⟨some d, .call { callee := .value f, args := xs.toArray, argTypes := ts }, T, p, af, none⟩ :: l) L M :=
  RL.s (OpS.call hf c hx hm hs) hd (by rintro _ _ ⟨N', h, rfl⟩; exact kk _ _ h) (by rintro _ _ ⟨_, h, _⟩; exact h.elim)
theorem RL.callKP {d : Nat} {f : Operand} {k : FuncId} {first cap : List Value} {xs : List Operand} {vs : List Value} {ts : Array TypeId} {K : Value → List HProp → Prop} {KP : List PanicEntry → List HProp → Prop} {pre M' : List HProp}
    (hf : Ev L f (.func (.func k) first.toArray cap.toArray)) (c : CallT P k) (hx : EvL L xs vs) (hm : Takes M pre M') (hs : Spec P w0 k (first ++ vs ++ cap).toArray pre (Ret K KP)) (hd : Nat.blt d n = true)
    (kk : ∀ v N, K v N → RL P w0 n ops Q l ((d, v) :: L) (N ++ M')) (kp : ∀ c N, KP c N → XJ w0 n (.panic c) Q L (N ++ M')) :
    RL P w0 n ops Q (⟨some d, .call { callee := .value f, args := xs.toArray, argTypes := ts }, T, p, af, none⟩ :: l) L M :=
  RL.s (OpS.call hf c hx hm hs) hd (by rintro _ _ ⟨N', h, rfl⟩; exact kk _ _ h) (by rintro _ _ ⟨N', h, rfl⟩; exact kp _ _ h)
theorem RL.callE {d : Nat} {f : Operand} {k : FuncId} {first cap : List Value} {xs : List Operand} {vs : List Value} {ts : Array TypeId} {r : Except (List PanicEntry) Value} 
    (hf : Ev L f (.func (.func k) first.toArray cap.toArray)) (c : CallT P k) (hx : EvL L xs vs) (hs : Spec P w0 k (first ++ vs ++ cap).toArray [] (IsE r)) (hd : Nat.blt d n = true)
    (kk : ∀ v, r = .ok v → RL P w0 n ops Q l ((d, v) :: L) M) (kp : ∀ c, r = .error c → XJ w0 n (.panic c) Q L M) :
    RL P w0 n ops Q (⟨some d, .call { callee := .value f, args := xs.toArray, argTypes := ts }, T, p, af, none⟩ :: l) L M :=
  RL.s (OpS.callE hf c hx hs) hd (by rintro _ _ ⟨h, rfl⟩; exact kk _ h) (by rintro _ _ ⟨h, rfl⟩; exact kp _ h)
theorem RL.box {d : Nat} {t : TypeId} {x : Operand} {vs : List Value} (hx : Ev L x (.agg vs.toArray)) (hd : Nat.blt d n = true) (k : ∀ b, RL P w0 n ops Q l ((d, .pointer (some ⟨b, 0, none⟩)) :: L) (cel b t vs :: M)) :
    RL P w0 n ops Q (⟨some d, .box t x, T, p, af, none⟩ :: l) L M :=
  RL.s (OpS.box hx) hd (by rintro _ _ ⟨b, rfl, rfl⟩; exact k b) (fun _ _ h => h.elim)
/-- A parameter's box that nobody writes: read-only from the first. -/
theorem RL.boxR {d : Nat} {t : TypeId} {x : Operand} {vs : List Value} (hx : Ev L x (.agg vs.toArray)) (hd : Nat.blt d n = true) (k : ∀ b, RL P w0 n ops Q l ((d, .pointer (some ⟨b, 0, none⟩)) :: L) (rcel b t vs :: M)) :
    RL P w0 n ops Q (⟨some d, .box t x, T, p, af, none⟩ :: l) L M := RL.box hx hd fun b => RL.freeze (Takes.here _ _) (k b)
theorem RL.box1 {d : Nat} {t : TypeId} {x : Operand} {v : Value} (hx : Ev L x v) (hv : v.cells = #[v]) (hd : Nat.blt d n = true) (k : ∀ b, RL P w0 n ops Q l ((d, .pointer (some ⟨b, 0, none⟩)) :: L) (cel b t [v] :: M)) :
    RL P w0 n ops Q (⟨some d, .box t x, T, p, af, none⟩ :: l) L M :=
  RL.s (OpS.box1 hx hv) hd (by rintro _ _ ⟨b, rfl, rfl⟩; exact k b) (fun _ _ h => h.elim)
theorem RL.alloc {d : Nat} {t : TypeId} {vs : List Value} {z : Value} [q : ZeroT P t z] (hz : z.cells = vs.toArray) (hd : Nat.blt d n = true) (k : ∀ b, RL P w0 n ops Q l ((d, .pointer (some ⟨b, 0, none⟩)) :: L) (cel b t vs :: M)) :
    RL P w0 n ops Q (⟨some d, .alloc t, T, p, af, none⟩ :: l) L M :=
  RL.s (OpS.alloc hz) hd (by rintro _ _ ⟨b, rfl, rfl⟩; exact k b) (fun _ _ h => h.elim)
theorem RL.store {t : TypeId} {x y : Operand} {b o : Nat} {E : TypeId} {cs : List Value} {v : Value} {M' : List HProp} [q : Sca P t] (hx : Ev L x (.pointer (some ⟨b, o, none⟩))) (hy : Ev L y v) (hm : Takes M [cel b E cs] M') (hv : v.cells = #[v]) (h1 : v.oneCell' = true) (ho : Nat.blt o cs.length = true)
    (k : RL P w0 n ops Q l L (cel b E (setSeg cs [v] o) :: M')) : RL P w0 n ops Q (⟨none, .store t x y, T, p, af, none⟩ :: l) L M :=
  RL.s0 (OpS.store hx hy hv h1 hm (by simpa [Nat.blt_eq] using ho)) (by rintro _ _ rfl; exact k) (fun _ _ h => h.elim)
theorem RL.storeA {t : TypeId} {x y : Operand} {b o z : Nat} {E : TypeId} {cs vs : List Value} {M' : List HProp} [q : AggT P t z] (hx : Ev L x (.pointer (some ⟨b, o, none⟩))) (hy : Ev L y (.agg vs.toArray)) (hm : Takes M [cel b E cs] M') (hn : vs.length = z) (h1 : vs.all (·.oneCell') = true) (ho : Nat.ble (o + z) cs.length = true)
    (k : RL P w0 n ops Q l L (cel b E (setSeg cs vs o) :: M')) : RL P w0 n ops Q (⟨none, .store t x y, T, p, af, none⟩ :: l) L M :=
  RL.s0 (OpS.storeA hx hy hn (by simpa using h1) hm (by simpa [Nat.ble_eq] using ho)) (by rintro _ _ rfl; exact k) (fun _ _ h => h.elim)
theorem RL.buildSlice {d : Nat} {t E sz : TypeId} {len : Nat} [q : SliceT P t E sz] {ps : List (Nat × Operand)} {xs : List Operand} {vs vs' : List Value} (hp : ps.map (·.2) = xs) (hx : EvL L xs vs) (hv : vs = vs')
    (hr : ∀ w : World, (Instr.buildSlice t len ((ps.map (·.1)).zip vs).toArray).run P w = .ok (.slice (some ⟨w.heap.size, 0, none⟩) len len) { w with heap := w.heap.push (.cells vs'.toArray E (0, 0)) }) (hd : Nat.blt d n = true)
    (k : ∀ b, RL P w0 n ops Q l ((d, .slice (some ⟨b, 0, none⟩) len len) :: L) (cel b E vs' :: M)) : RL P w0 n ops Q (⟨some d, .buildSlice t len ps.toArray, T, p, af, none⟩ :: l) L M :=
  RL.s (OpS.buildSlice vs' hp hx hr) hd (by rintro _ _ ⟨b, rfl, rfl⟩; exact k b) (fun _ _ h => h.elim)
/-- A whole block is stored. -/
theorem RL.storeW {t : TypeId} {x y : Operand} {b z : Nat} {E : TypeId} {cs vs : List Value} {M' : List HProp} [q : AggT P t z] (hx : Ev L x (.pointer (some ⟨b, 0, none⟩))) (hy : Ev L y (.agg vs.toArray)) (hm : Takes M [cel b E cs] M') (hn : vs.length = z) (hc : cs.length = z) (h1 : vs.all (·.oneCell') = true)
    (k : RL P w0 n ops Q l L (cel b E vs :: M')) : RL P w0 n ops Q (⟨none, .store t x y, T, p, af, none⟩ :: l) L M :=
  RL.s0 (OpS.storeA hx hy hn (by simpa using h1) hm (by omega)) (by
    rintro _ _ rfl
    have : setSeg cs vs 0 = vs := by simp [setSeg, List.drop_of_length_le (show cs.length ≤ vs.length by omega)]
    rw [this]
    exact k) (fun _ _ h => h.elim)
end
attribute [irreducible] OpP OpS HasAt Base
end Go.Proofs.YtgmapenlgammfaaGreatDoor

/- Regions that draw their order, over the separation logic: operations that only compute or read are taken first, in whatever order; the others in every order that the edges allow. -/
namespace Go.Proofs.YtgmapenlgammfaaGreatDoor
open Go Go.RowKit
attribute [local semireducible] Takes Gives Ev XJ CJ RL Spec pt ro OpP OpS

def depsOf (o : Oper) : List Nat := (o.after.toList.filter (fun e => Region.binds .any e)).map (·.on)
/-- What may come up next where D is done. -/
def vready (ops : Array Oper) (D : List Nat) : List Nat :=
  (List.range ops.size).filter fun i => !D.contains i && ((ops[i]?).map fun o => (depsOf o).all (D.contains ·)).getD false
/-- Each slot that an operation among the first k looks at and that another of them writes is written by one that it waits for. -/
def namesOk (ops : Array Oper) (k : Nat) : Bool :=
  (List.range k).all fun i => match ops[i]? with
    | none => false
    | some o => (o.looksAt ops).all fun t => (List.range k).all fun j => match ops[j]? with
      | none => false
      | some q => q.dst != some t || (depsOf o).contains j
/-- The operations from k on wait for all below k, and each for the one before it; no operation waits for a later one. -/
def tailOk (ops : Array Oper) (k : Nat) : Bool :=
  (List.range ops.size).all fun i => match ops[i]? with
    | none => false
    | some o => (o.after.all fun e => e.on < i || !Region.binds .any e) && (decide (i < k) || ((List.range k).all ((depsOf o).contains ·) && (i == k || (depsOf o).contains (i - 1))))
def wantedL (ops : Array Oper) (L : Env) (o : Oper) : Option Bool :=
  match o.guard with
  | none => some true
  | some (j, b) => match ((ops[j]?).bind (·.dst)).bind L.get with
    | some (.bool c) => some (c == b)
    | some (.tuple _) => some false
    | _ => none
def notSel (o : Oper) : Bool := match o.op with
  | .select .. => false
  | _ => true
theorem notSel_ne {o : Oper} (h : notSel o = true) : ∀ cs b, o.op ≠ .select cs b := by
  intro cs b e
  unfold notSel at h
  rw [e] at h
  cases h

section
variable (P : Program) (w0 : World) (n : Nat) (ops : Array Oper) (Q : Exit → Act → World → Prop) (Mro : List HProp)
structure Pend (L : Env) (i : Nat) : Prop where
  run : ∃ o d v L0, ops[i]? = some o ∧ o.dst = some d ∧ L.get d = some v ∧ notSel o = true ∧ (∀ t u, L0.get t = some u → L.get t = some u) ∧ (∀ t ∈ o.looksAt ops, ∃ u, L0.get t = some u) ∧
    ((wantedL ops L0 o = some true ∧ OpP P w0 L0 Mro o v) ∨ (wantedL ops L0 o = some false ∧ v = undef))
structure Real (k : Nat) (D Z : List Nat) (L : Env) (listed : Array Bool) (a : Act) : Prop where
  lsz : listed.size = ops.size
  lst : ∀ i, i < ops.size → (listed.getD i false = true ↔ i ∈ D ∧ i ∉ Z)
  zd : ∀ i ∈ Z, i ∈ D ∧ i < k
  dk : ∀ i ∈ D, i < ops.size
  df : a.defers = []
  sz : a.tmps.size = n
  dom : ∀ t v, L.get t = some v → t < n
  ok : ∀ t v, L.get t = some v → (∀ i ∈ Z, ∀ o, ops[i]? = some o → o.dst ≠ some t) → a.tmps[t]? = some v
/-- From the state (D, L, M) the rest of the region comes to Q. k: how many operations may come in any order. -/
def AJ (k : Nat) (D : List Nat) (L : Env) (M : List HProp) : Prop :=
  Gives M Mro → ∀ (fuel : Nat) (Z : List Nat) (listed : Array Bool) (a : Act) (w : World) (h : Frag),
    Real n ops k D Z L listed a → (∀ i ∈ Z, Pend P w0 ops Mro L i) → star M h → Sat w0 w h → (List.range ops.size).countP (fun i => !listed.getD i false) ≤ fuel →
    wpAny P .any ops Q fuel listed a w
end

section
variable {P : Program} {w0 : World} {n : Nat} {ops : Array Oper} {Q : Exit → Act → World → Prop} {Mro : List HProp} {k : Nat} {D : List Nat} {L : Env} {M : List HProp}

theorem ready_spec {listed : Array Bool} {i : Nat} (hsz : listed.size = ops.size) (h : i ∈ Region.ready .any ops listed) : i < ops.size ∧ listed.getD i false = false ∧ ∃ o, ops[i]? = some o ∧ ∀ j ∈ depsOf o, listed.getD j false = true := by
  unfold Region.ready at h
  rw [List.mem_filter] at h
  obtain ⟨h1, h2⟩ := h
  have hi : i < ops.size := by simpa using h1
  rw [Bool.and_eq_true] at h2
  obtain ⟨h2, h3⟩ := h2
  refine ⟨hi, ?_, ops[i], by simp [hi], ?_⟩
  · have : listed.getD i true = false := by simpa using h2
    have hl : i < listed.size := by omega
    simp [Array.getD, hl] at this ⊢
    exact this
  · intro j hj
    have hgo : ops[i]? = some ops[i] := by simp [hi]
    rw [hgo] at h3
    simp only [Option.map_some, Option.getD_some] at h3
    unfold depsOf at hj
    rw [List.mem_map] at hj
    obtain ⟨e, he, rfl⟩ := hj
    rw [List.mem_filter] at he
    have := Array.all_eq_true'.1 h3 e (by simpa using he.1)
    rw [he.2] at this
    simpa using this
/-- An act in which also what is pending is done. -/
theorem full_act (a : Act) (L0 : Env) (hd : a.defers = []) (hs : a.tmps.size = n) (hdom : ∀ t v, L0.get t = some v → t < n) :
    ∃ a'' : Act, St n L0 a'' := by
  refine ⟨{ tmps := Array.ofFn (n := n) (fun t => ((L0.get t.val).getD (a.tmps.getD t.val undef))), defers := [] }, rfl, by simp, ?_⟩
  intro t v e
  have := hdom t v e
  simp [this, e]
theorem eval_same {a a'' : Act} {L0 : Env} (hs : St n L0 a'') {o : Oper} (hns : notSel o = true) (hl : ∀ t ∈ o.looksAt ops, ∃ u, L0.get t = some u ∧ a.tmps[t]? = some u) : execOp a.eval o = execOp a''.eval o := by
  refine execOp_congr o (notSel_ne hns) ?_
  intro x hx
  cases x with
  | tmp t =>
    have : t ∈ o.looksAt ops := by
      unfold Oper.looksAt
      exact List.mem_append_left _ (List.mem_filterMap.2 ⟨.tmp t, by simpa using hx, rfl⟩)
    obtain ⟨u, h1, h2⟩ := hl t this
    have h3 := hs.ok t u h1
    simp [Act.eval, h2, h3]
  | _ => rfl
theorem wanted_same {a : Act} {L0 : Env} {o : Oper} {b : Bool} (hl : ∀ t ∈ o.looksAt ops, ∃ u, L0.get t = some u ∧ a.tmps[t]? = some u) (hw : wantedL ops L0 o = some b) : Region.wanted o (yielded ops a.tmps) = b := by
  unfold wantedL at hw
  unfold Region.wanted
  cases hg : o.guard with
  | none => rw [hg] at hw; simpa using hw
  | some jb =>
    obtain ⟨j, b'⟩ := jb
    rw [hg] at hw
    simp only at hw ⊢
    unfold yielded
    cases hd : (ops[j]?).bind (·.dst) with
    | none => rw [hd] at hw; cases hw
    | some t =>
      rw [hd] at hw
      have : t ∈ o.looksAt ops := by
        unfold Oper.looksAt
        refine List.mem_append_right _ ?_
        simp [hg, hd]
      obtain ⟨u, h1, h2⟩ := hl t this
      simp only [Option.bind_some, h1] at hw
      simp only [Option.bind_some, h2]
      cases u <;> simp_all

/-- A pending operation comes up. -/
theorem pend_step {i : Nat} {Z : List Nat} {listed : Array Bool} {a : Act} {w : World} {h : Frag} {K : Act → World → Prop} (hn : namesOk ops k = true) (hk : k ≤ ops.size)
    (r : Real n ops k D Z L listed a) (hi : i ∈ Region.ready .any ops listed) (hz : i ∈ Z) (hp : Pend P w0 ops Mro L i) (m : star M h) (g : Gives M Mro) (s : Sat w0 w h)
    (hK : ∀ a', Real n ops k D (Z.filter (· != i)) L (listed.setIfInBounds i true) a' → K a' w) : wpOp P ops Q i K a w := by
  obtain ⟨hlt, hnl, o', ho', hdep⟩ := ready_spec r.lsz hi
  obtain ⟨o, d, v, L0, ho, hd, hv, hns, hsub, hlk, hrun⟩ := hp.run
  rw [ho] at ho'
  injection ho' with ho'
  subst ho'
  -- what it looks at is really there
  have hl : ∀ t ∈ o.looksAt ops, ∃ u, L0.get t = some u ∧ a.tmps[t]? = some u := by
    intro t ht
    obtain ⟨u, hu⟩ := hlk t ht
    refine ⟨u, hu, r.ok t u (hsub t u hu) ?_⟩
    intro j hj q hq e
    have hjk := (r.zd j hj).2
    have hik := (r.zd i hz).2
    have := List.all_eq_true.1 hn i (by simpa using hik)
    rw [ho] at this
    have := List.all_eq_true.1 this t ht
    have := List.all_eq_true.1 this j (by simpa using hjk)
    rw [hq] at this
    simp only [e, bne_self_eq_false, Bool.false_or] at this
    have hjd : j ∈ depsOf o := by simpa using this
    have := hdep j hjd
    have := (r.lst j (by omega)).1 this
    exact this.2 hj
  have hdn : d < n := r.dom d v hv
  have hnext : Real n ops k D (Z.filter (· != i)) L (listed.setIfInBounds i true) (a.put o.dst v) := by
    refine ⟨by simp [r.lsz], ?_, ?_, r.dk, by rw [hd]; exact r.df, by rw [hd]; simp [Act.put, r.sz], r.dom, ?_⟩
    · intro j hj
      by_cases hji : j = i
      · subst hji
        constructor
        · intro _; exact ⟨(r.zd j hz).1, by simp⟩
        · intro _; simp [Array.getD, hj, r.lsz]
      · have h1 : (listed.setIfInBounds i true).getD j false = listed.getD j false := by
          simp only [Array.getD_eq_getD_getElem?]
          rw [Array.getElem?_setIfInBounds_ne (Ne.symm hji)]
        rw [h1, r.lst j hj]
        simp [hji]
    · intro j hj
      rw [List.mem_filter] at hj
      exact r.zd j hj.1
    · intro t u hu hne
      rw [hd]
      simp only [Act.put]
      by_cases htd : d = t
      · subst htd
        rw [hv] at hu
        injection hu with hu
        subst hu
        simp [r.sz, hdn]
      · rw [Array.getElem?_setIfInBounds_ne htd]
        refine r.ok t u hu ?_
        intro j hj q hq
        by_cases hji : j = i
        · subst hji
          rw [ho] at hq
          injection hq with hq
          subst hq
          rw [hd]
          simpa using htd
        · exact hne j (List.mem_filter.2 ⟨hj, by simpa using hji⟩) q hq
  unfold wpOp
  rw [ho]
  simp only
  rcases hrun with ⟨hw, hrun⟩ | ⟨hw, rfl⟩
  · rw [if_pos (wanted_same hl hw)]
    refine .inl ?_
    obtain ⟨a'', hst⟩ := full_act (n := n) a L0 r.df r.sz (fun t v e => r.dom t v (hsub t v e))
    have e := hrun n a'' w h hst (g h m) s
    rw [← eval_same hst hns hl] at e
    simp only [Oper.wp, e, Oper.upon]
    exact hK _ hnext
  · rw [if_neg (by rw [wanted_same hl hw]; simp)]
    exact hK _ hnext

theorem count_less {listed : Array Bool} {i : Nat} (hlt : i < ops.size) (hsz : listed.size = ops.size) (hnl : listed.getD i false = false) {fuel : Nat} (hc : (List.range ops.size).countP (fun i => !listed.getD i false) ≤ fuel + 1) :
    (List.range ops.size).countP (fun j => !(listed.setIfInBounds i true).getD j false) ≤ fuel := by
  have hp : (List.range ops.size).Perm (i :: (List.range ops.size).erase i) := List.perm_cons_erase (by simpa using hlt)
  rw [hp.countP_eq] at hc ⊢
  rw [List.countP_cons] at hc ⊢
  have h1 : (listed.setIfInBounds i true).getD i false = true := by simp [Array.getD, hsz, hlt]
  simp only [hnl, Bool.not_false, if_true, h1, Bool.not_true, Bool.false_eq_true, if_false, Nat.add_zero] at hc ⊢
  have : ((List.range ops.size).erase i).countP (fun j => !(listed.setIfInBounds i true).getD j false) ≤ ((List.range ops.size).erase i).countP (fun i => !listed.getD i false) := by
    refine List.countP_mono_left ?_
    intro j hj h
    have hne : j ≠ i := by
      intro e; subst e
      exact (List.Nodup.not_mem_erase List.nodup_range) hj
    have h2 : (listed.setIfInBounds i true).getD j false = listed.getD j false := by
      simp only [Array.getD_eq_getD_getElem?]
      rw [Array.getElem?_setIfInBounds_ne (Ne.symm hne)]
    rw [h2] at h
    exact h
  omega
theorem all_listed {listed : Array Bool} (hc : (List.range ops.size).countP (fun i => !listed.getD i false) ≤ 0) : ∀ i, i < ops.size → listed.getD i false = true := by
  intro i hi
  have : (List.range ops.size).countP (fun i => !listed.getD i false) = 0 := by omega
  rw [List.countP_eq_zero] at this
  have := this i (by simpa using hi)
  simpa using this

/-- A pure operation is done ahead. -/
theorem AJ.step {i d : Nat} {op : Op} {T : TypeId} {p : String} {af : Array Edge} {gd : Option (Nat × Bool)} {v : Value} (ho : ops[i]? = some ⟨some d, op, T, p, af, gd⟩) (hik : Nat.blt i k = true) (hk : Nat.ble k ops.size = true) (hD : D.contains i = false) (hf : L.get d = none) (hd : Nat.blt d n = true)
    (hns : notSel ⟨some d, op, T, p, af, gd⟩ = true) (hlk : ((Oper.looksAt ops ⟨some d, op, T, p, af, gd⟩).all fun t => (L.get t).isSome) = true)
    (hrun : (wantedL ops L ⟨some d, op, T, p, af, gd⟩ = some true ∧ OpP P w0 L Mro ⟨some d, op, T, p, af, gd⟩ v) ∨ (wantedL ops L ⟨some d, op, T, p, af, gd⟩ = some false ∧ v = undef))
    (kk : AJ P w0 n ops Q Mro k (i :: D) ((d, v) :: L) M) : AJ P w0 n ops Q Mro k D L M := by
  have hik' : i < k := by simpa [Nat.blt_eq] using hik
  have hk' : k ≤ ops.size := by simpa [Nat.ble_eq] using hk
  have hd' : d < n := by simpa [Nat.blt_eq] using hd
  have hD' : i ∉ D := by simpa using hD
  intro g fuel Z listed a w h r hp m s hc
  have hsub : ∀ t u, L.get t = some u → Env.get ((d, v) :: L) t = some u := by
    intro t u hu
    simp only [Env.get]
    cases hb : Nat.beq d t with
    | true => have := Nat.eq_of_beq_eq_true hb; subst this; rw [hf] at hu; cases hu
    | false => simpa using hu
  refine kk g fuel (i :: Z) listed a w h ?_ ?_ m s hc
  · refine ⟨r.lsz, ?_, ?_, ?_, r.df, r.sz, ?_, ?_⟩
    · intro j hj
      rw [r.lst j hj]
      by_cases hji : j = i
      · subst hji; simp [hD']
      · simp [hji]
    · intro j hj
      rcases List.mem_cons.1 hj with rfl | hj
      · exact ⟨by simp, hik'⟩
      · exact ⟨List.mem_cons_of_mem _ (r.zd j hj).1, (r.zd j hj).2⟩
    · intro j hj
      rcases List.mem_cons.1 hj with rfl | hj
      · omega
      · exact r.dk j hj
    · intro t u hu
      simp only [Env.get] at hu
      cases hb : Nat.beq d t with
      | true => have := Nat.eq_of_beq_eq_true hb; omega
      | false => rw [hb] at hu; exact r.dom t u (by simpa using hu)
    · intro t u hu hne
      have htd : d ≠ t := by
        intro e
        exact hne i (by simp) _ ho (by simp [e])
      simp only [Env.get] at hu
      have hb : Nat.beq d t = false := by
        cases hb : Nat.beq d t with
        | true => exact absurd (Nat.eq_of_beq_eq_true hb) htd
        | false => rfl
      rw [hb] at hu
      exact r.ok t u (by simpa using hu) (fun j hj => hne j (List.mem_cons_of_mem _ hj))
  · intro j hj
    rcases List.mem_cons.1 hj with rfl | hj
    · refine ⟨_, d, v, L, ho, rfl, Look.here, hns, hsub, ?_, hrun⟩
      intro t ht
      have := List.all_eq_true.1 hlk t ht
      exact Option.isSome_iff_exists.1 this
    · obtain ⟨o, d', v', L0, h1, h2, h3, h4, h5, h6, h7⟩ := (hp j hj).run
      exact ⟨o, d', v', L0, h1, h2, hsub _ _ h3, h4, fun t u e => hsub t u (h5 t u e), h6, h7⟩

def ordOk (ops : Array Oper) : Bool := (List.range ops.size).all fun i => match ops[i]? with
  | none => false
  | some o => (depsOf o).all (decide <| · < i)
theorem ready_all {listed : Array Bool} (ho : ordOk ops = true) (hsz : listed.size = ops.size) (he : Region.ready .any ops listed = []) : ∀ i, i < ops.size → listed.getD i false = true := by
  intro i
  induction i using Nat.strongRecOn with
  | _ i ih =>
    intro hi
    cases hl : listed.getD i false with
    | true => rfl
    | false =>
      exfalso
      have hmem : i ∈ Region.ready .any ops listed := by
        unfold Region.ready
        rw [List.mem_filter]
        refine ⟨by simpa using hi, ?_⟩
        have hgo : ops[i]? = some ops[i] := by simp [hi]
        have h1 := List.all_eq_true.1 ho i (by simpa using hi)
        rw [hgo] at h1 ⊢
        simp only at h1
        rw [Bool.and_eq_true]
        constructor
        · have : i < listed.size := by omega
          simp [Array.getD, this] at hl ⊢
          exact hl
        · simp only [Option.map_some, Option.getD_some]
          rw [Array.all_eq_true']
          intro e he'
          cases hb : Region.binds .any e with
          | false => simp
          | true =>
            have hd : e.on ∈ depsOf ops[i] := by
              unfold depsOf
              rw [List.mem_map]
              exact ⟨e, List.mem_filter.2 ⟨by simpa using he', hb⟩, rfl⟩
            have h2 := List.all_eq_true.1 h1 e.on hd
            have h3 : e.on < i := by simpa using h2
            simp [ih e.on h3 (by omega)]
      rw [he] at hmem
      cases hmem

/-- All is done. -/
theorem AJ.done (hor : ordOk ops = true) (hn : namesOk ops k = true) (hk : Nat.ble k ops.size = true) (hall : ((List.range ops.size).all (D.contains ·)) = true) (kk : XJ w0 n .normal Q L M) : AJ P w0 n ops Q Mro k D L M := by
  have hk' : k ≤ ops.size := by simpa [Nat.ble_eq] using hk
  intro g fuel
  induction fuel with
  | zero =>
    intro Z listed a w h r hp m s hc
    have hl := all_listed hc
    have hz : Z = [] := by
      cases Z with
      | nil => rfl
      | cons i Z =>
        have h1 := r.zd i (by simp)
        have := (r.lst i (r.dk i h1.1)).1 (hl i (r.dk i h1.1))
        exact absurd (by simp) this.2
    subst hz
    refine ⟨?_, kk a w h ⟨r.df, r.sz, fun t v e => r.ok t v e (by simp)⟩ m s⟩
    refine List.eq_nil_iff_forall_not_mem.2 fun i hi => ?_
    obtain ⟨h1, h2, _⟩ := ready_spec r.lsz hi
    rw [hl i h1] at h2
    cases h2
  | succ fuel ih =>
    intro Z listed a w h r hp m s hc
    refine ⟨fun he => ?_, fun i hi => ?_⟩
    · have hl := ready_all hor r.lsz he
      have hz : Z = [] := by
        cases Z with
        | nil => rfl
        | cons i Z =>
          have h1 := r.zd i (by simp)
          have := (r.lst i (r.dk i h1.1)).1 (hl i (r.dk i h1.1))
          exact absurd (by simp) this.2
      subst hz
      exact kk a w h ⟨r.df, r.sz, fun t v e => r.ok t v e (by simp)⟩ m s
    · obtain ⟨hlt, hnl, o, ho, hdep⟩ := ready_spec r.lsz hi
      have hiD : i ∈ D := by simpa using List.all_eq_true.1 hall i (by simpa using hlt)
      have hz : i ∈ Z := by
        by_cases hz : i ∈ Z
        · exact hz
        · have := (r.lst i hlt).2 ⟨hiD, hz⟩
          rw [hnl] at this; cases this
      refine pend_step (L := L) (D := D) (Z := Z) (M := M) hn hk' r hi hz (hp i hz) m g s ?_
      intro a' r'
      exact ih _ _ a' w h r' (fun j hj => hp j (List.mem_filter.1 hj).1) m s (count_less hlt r.lsz hnl hc)
def addE (d : Option Nat) (v : Value) (L : Env) : Env := match d with
  | some d => (d, v) :: L
  | none => L
theorem addE_sub {d : Option Nat} {v : Value} {L : Env} (h : ∀ e, d = some e → L.get e = none) : ∀ t u, L.get t = some u → (addE d v L).get t = some u := by
  intro t u hu
  cases d with
  | none => exact hu
  | some d =>
    simp only [addE, Env.get]
    cases hb : Nat.beq d t with
    | true => have := Nat.eq_of_beq_eq_true hb; subst this; rw [h d rfl] at hu; cases hu
    | false => simpa using hu
/-- What is done at a loud operation i, the next one. -/
def Loud (P : Program) (w0 : World) (n : Nat) (ops : Array Oper) (Q : Exit → Act → World → Prop) (Mro : List HProp) (k : Nat) (D : List Nat) (L : Env) (M : List HProp) (i : Nat) : Prop :=
  ∃ (o : Oper) (K : Value → List HProp → Prop) (KP : List PanicEntry → List HProp → Prop), ops[i]? = some o ∧ wantedL ops L o = some true ∧ (∀ d, o.dst = some d → d < n) ∧ (∀ d, o.dst = some d → L.get d = none) ∧ notSel o = true ∧ (∀ t ∈ o.looksAt ops, ∃ u, L.get t = some u) ∧ i < k ∧
    OpS P w0 L M o K KP ∧ (∀ v M', K v M' → Gives M' Mro ∧ AJ P w0 n ops Q Mro k (i :: D) (addE o.dst v L) M') ∧ (∀ c M', KP c M' → XJ w0 n (.panic c) Q [] M')

theorem AJ.louds (hor : ordOk ops = true) (hn : namesOk ops k = true) (hk : Nat.ble k ops.size = true) (hne : ((List.range ops.size).all (D.contains ·)) = false) (hl : ∀ i ∈ vready ops D, Loud P w0 n ops Q Mro k D L M i) : AJ P w0 n ops Q Mro k D L M := by
  have hk' : k ≤ ops.size := by simpa [Nat.ble_eq] using hk
  intro g fuel
  have notall : ∀ (Z : List Nat) (listed : Array Bool) (a : Act), Real n ops k D Z L listed a → ¬ (∀ i, i < ops.size → listed.getD i false = true) := by
    intro Z listed a r hl
    have : ((List.range ops.size).all (D.contains ·)) = true := by
      rw [List.all_eq_true]
      intro i hi
      have hi' : i < ops.size := by simpa using hi
      have := (r.lst i hi').1 (hl i hi')
      simpa using this.1
    rw [this] at hne
    cases hne
  induction fuel with
  | zero =>
    intro Z listed a w h r hp m s hc
    exact absurd (all_listed hc) (notall Z listed a r)
  | succ fuel ih =>
    intro Z listed a w h r hp m s hc
    refine ⟨fun he => absurd (ready_all hor r.lsz he) (notall Z listed a r), fun i hi => ?_⟩
    obtain ⟨hlt, hnl, o, ho, hdep⟩ := ready_spec r.lsz hi
    by_cases hz : i ∈ Z
    · refine pend_step (L := L) (D := D) (Z := Z) (M := M) hn hk' r hi hz (hp i hz) m g s ?_
      intro a' r'
      exact ih _ _ a' w h r' (fun j hj => hp j (List.mem_filter.1 hj).1) m s (count_less hlt r.lsz hnl hc)
    · have hiD : i ∉ D := fun hD => by
        have := (r.lst i hlt).2 ⟨hD, hz⟩
        rw [hnl] at this; cases this
      have hdepD : ∀ j ∈ depsOf o, j < ops.size → j ∈ D ∧ j ∉ Z := fun j hj hjs => (r.lst j hjs).1 (hdep j hj)
      have hord : ∀ j ∈ depsOf o, j < ops.size := by
        intro j hj
        have h1 := List.all_eq_true.1 hor i (by simpa using hlt)
        rw [ho] at h1
        have := List.all_eq_true.1 h1 j hj
        have : j < i := by simpa using this
        omega
      have hv : i ∈ vready ops D := by
        unfold vready
        rw [List.mem_filter]
        refine ⟨by simpa using hlt, ?_⟩
        rw [ho]
        simp only [Option.map_some, Option.getD_some, Bool.and_eq_true, List.all_eq_true]
        refine ⟨by simpa using hiD, fun j hj => ?_⟩
        simpa using (hdepD j hj (hord j hj)).1
      obtain ⟨o', K, KP, ho', hgd, hdn, hf, hns, hlk, hik, hop, hkk, hkp⟩ := hl i hv
      rw [ho] at ho'
      injection ho' with ho'
      subst ho'
      have hlr : ∀ t ∈ o.looksAt ops, ∃ u, L.get t = some u ∧ a.tmps[t]? = some u := by
        intro t ht
        obtain ⟨u, hu⟩ := hlk t ht
        refine ⟨u, hu, r.ok t u hu ?_⟩
        intro j hj q hq e
        have hjk := (r.zd j hj).2
        have := List.all_eq_true.1 hn i (by simpa using hik)
        rw [ho] at this
        have := List.all_eq_true.1 this t ht
        have := List.all_eq_true.1 this j (by simpa using hjk)
        rw [hq] at this
        simp only [e, bne_self_eq_false, Bool.false_or] at this
        have hjd : j ∈ depsOf o := by simpa using this
        exact (hdepD j hjd (hord j hjd)).2 hj
      obtain ⟨a'', hst⟩ := full_act (n := n) a L r.df r.sz r.dom
      have e := hop n a'' w h hst m s
      rw [← eval_same hst hns hlr] at e
      unfold wpOp
      rw [ho]
      simp only
      rw [if_pos (wanted_same hlr hgd)]
      refine .inl ?_
      unfold Oper.wp
      refine upon_of e ?_ ?_
      · intro v M' h' w' kk mm ss
        obtain ⟨g', haj⟩ := hkk v M' kk
        refine haj g' fuel Z (listed.setIfInBounds i true) (a.put o.dst v) w' h' ?_ ?_ mm ss (count_less hlt r.lsz hnl hc)
        · refine ⟨by simp [r.lsz], ?_, fun j hj => ⟨List.mem_cons_of_mem _ (r.zd j hj).1, (r.zd j hj).2⟩, ?_, by cases o.dst <;> exact r.df, by cases o.dst <;> simp [Act.put, r.sz], ?_, ?_⟩
          · intro j hj
            by_cases hji : j = i
            · subst hji
              constructor
              · intro _; exact ⟨by simp, hz⟩
              · intro _; simp [Array.getD, hj, r.lsz]
            · have h1 : (listed.setIfInBounds i true).getD j false = listed.getD j false := by
                simp only [Array.getD_eq_getD_getElem?]
                rw [Array.getElem?_setIfInBounds_ne (Ne.symm hji)]
              rw [h1, r.lst j hj]
              simp [hji]
          · intro j hj
            rcases List.mem_cons.1 hj with rfl | hj
            · exact hlt
            · exact r.dk j hj
          · intro t u hu
            cases hd : o.dst with
            | none => rw [hd] at hu; exact r.dom t u hu
            | some d =>
              rw [hd] at hu
              simp only [addE, Env.get] at hu
              cases hb : Nat.beq d t with
              | true => have h1 := Nat.eq_of_beq_eq_true hb; have h2 := hdn d hd; rw [← h1]; exact h2
              | false => rw [hb] at hu; exact r.dom t u (by simpa using hu)
          · intro t u hu hne'
            cases hd : o.dst with
            | none => rw [hd] at hu; exact r.ok t u hu hne'
            | some d =>
              rw [hd] at hu
              simp only [Act.put]
              simp only [addE, Env.get] at hu
              cases hb : Nat.beq d t with
              | true =>
                have := Nat.eq_of_beq_eq_true hb
                subst this
                rw [hb] at hu
                simp at hu
                subst hu
                simp [r.sz, hdn d hd]
              | false =>
                rw [hb] at hu
                have htd := Nat.ne_of_beq_eq_false hb
                rw [Array.getElem?_setIfInBounds_ne htd]
                exact r.ok t u (by simpa using hu) hne'
        · intro j hj
          obtain ⟨oj, dj, vj, L0, h1, h2, h3, h4, h5, h6, h7⟩ := (hp j hj).run
          have hsub := addE_sub (v := v) hf
          exact ⟨oj, dj, vj, L0, h1, h2, hsub _ _ h3, h4, fun t u e => hsub t u (h5 t u e), h6, h7⟩
      · intro c M' h' w' kk mm ss
        exact hkp c M' kk a w' h' ⟨r.df, r.sz, fun t v e => by cases e⟩ mm ss

/-- One operation alone may come up. -/
theorem AJ.loud1 {i d : Nat} {op : Op} {T : TypeId} {p : String} {af : Array Edge} {K : Value → List HProp → Prop} {KP : List PanicEntry → List HProp → Prop} (hor : ordOk ops = true) (hn : namesOk ops k = true) (hk : Nat.ble k ops.size = true) (hne : ((List.range ops.size).all (D.contains ·)) = false)
    (hv : vready ops D = [i]) (ho : ops[i]? = some ⟨some d, op, T, p, af, none⟩) (hik : Nat.blt i k = true) (hd : Nat.blt d n = true) (hf : L.get d = none) (hns : notSel ⟨some d, op, T, p, af, none⟩ = true) (hlk : ((Oper.looksAt ops ⟨some d, op, T, p, af, none⟩).all fun t => (L.get t).isSome) = true)
    (hop : OpS P w0 L M ⟨some d, op, T, p, af, none⟩ K KP) (hkk : ∀ v M', K v M' → Gives M' Mro ∧ AJ P w0 n ops Q Mro k (i :: D) ((d, v) :: L) M') (hkp : ∀ c M', KP c M' → XJ w0 n (.panic c) Q [] M') : AJ P w0 n ops Q Mro k D L M := by
  refine AJ.louds hor hn hk hne fun j hj => ?_
  rw [hv] at hj
  obtain rfl : j = i := by simpa using hj
  refine ⟨_, K, KP, ho, rfl, fun e he => (by injection he with he; subst he; simpa [Nat.blt_eq] using hd), fun e he => (by injection he with he; subst he; exact hf), hns, ?_, by simpa [Nat.blt_eq] using hik, hop, hkk, hkp⟩
  intro t ht
  exact Option.isSome_iff_exists.1 (List.all_eq_true.1 hlk t ht)

/-- The same behind a guard. -/
theorem AJ.loudG {i d : Nat} {op : Op} {T : TypeId} {p : String} {af : Array Edge} {gd : Option (Nat × Bool)} {K : Value → List HProp → Prop} {KP : List PanicEntry → List HProp → Prop} (hor : ordOk ops = true) (hn : namesOk ops k = true) (hk : Nat.ble k ops.size = true) (hne : ((List.range ops.size).all (D.contains ·)) = false)
    (hv : vready ops D = [i]) (ho : ops[i]? = some ⟨some d, op, T, p, af, gd⟩) (hw : wantedL ops L ⟨some d, op, T, p, af, gd⟩ = some true) (hik : Nat.blt i k = true) (hd : Nat.blt d n = true) (hf : L.get d = none) (hns : notSel ⟨some d, op, T, p, af, gd⟩ = true) (hlk : ((Oper.looksAt ops ⟨some d, op, T, p, af, gd⟩).all fun t => (L.get t).isSome) = true)
    (hop : OpS P w0 L M ⟨some d, op, T, p, af, gd⟩ K KP) (hkk : ∀ v M', K v M' → Gives M' Mro ∧ AJ P w0 n ops Q Mro k (i :: D) ((d, v) :: L) M') (hkp : ∀ c M', KP c M' → XJ w0 n (.panic c) Q [] M') : AJ P w0 n ops Q Mro k D L M := by
  refine AJ.louds hor hn hk hne fun j hj => ?_
  rw [hv] at hj
  obtain rfl : j = i := by simpa using hj
  refine ⟨_, K, KP, ho, hw, fun e he => (by injection he with he; subst he; simpa [Nat.blt_eq] using hd), fun e he => (by injection he with he; subst he; exact hf), hns, ?_, by simpa [Nat.blt_eq] using hik, hop, hkk, hkp⟩
  intro t ht
  exact Option.isSome_iff_exists.1 (List.all_eq_true.1 hlk t ht)

/-- The same for one that gives nothing. -/
theorem AJ.loud0 {i : Nat} {op : Op} {T : TypeId} {p : String} {af : Array Edge} {K : Value → List HProp → Prop} {KP : List PanicEntry → List HProp → Prop} (hor : ordOk ops = true) (hn : namesOk ops k = true) (hk : Nat.ble k ops.size = true) (hne : ((List.range ops.size).all (D.contains ·)) = false)
    (hv : vready ops D = [i]) (ho : ops[i]? = some ⟨none, op, T, p, af, none⟩) (hik : Nat.blt i k = true) (hns : notSel ⟨none, op, T, p, af, none⟩ = true) (hlk : ((Oper.looksAt ops ⟨none, op, T, p, af, none⟩).all fun t => (L.get t).isSome) = true)
    (hop : OpS P w0 L M ⟨none, op, T, p, af, none⟩ K KP) (hkk : ∀ v M', K v M' → Gives M' Mro ∧ AJ P w0 n ops Q Mro k (i :: D) L M') (hkp : ∀ c M', KP c M' → XJ w0 n (.panic c) Q [] M') : AJ P w0 n ops Q Mro k D L M := by
  refine AJ.louds hor hn hk hne fun j hj => ?_
  rw [hv] at hj
  obtain rfl : j = i := by simpa using hj
  refine ⟨_, K, KP, ho, rfl, (fun e he => by cases he), (fun e he => by cases he), hns, ?_, by simpa [Nat.blt_eq] using hik, hop, hkk, hkp⟩
  intro t ht
  exact Option.isSome_iff_exists.1 (List.all_eq_true.1 hlk t ht)
/-- Two may come up, in either order. -/
theorem AJ.loud2 {i j d e : Nat} {op op' : Op} {T T' : TypeId} {p p' : String} {af af' : Array Edge} {K K' : Value → List HProp → Prop} {KP KP' : List PanicEntry → List HProp → Prop} (hor : ordOk ops = true) (hn : namesOk ops k = true) (hk : Nat.ble k ops.size = true) (hne : ((List.range ops.size).all (D.contains ·)) = false)
    (hv : vready ops D = [i, j]) (ho : ops[i]? = some ⟨some d, op, T, p, af, none⟩) (ho' : ops[j]? = some ⟨some e, op', T', p', af', none⟩) (hik : Nat.blt i k = true) (hjk : Nat.blt j k = true) (hd : Nat.blt d n = true) (he : Nat.blt e n = true) (hf : L.get d = none) (hf' : L.get e = none)
    (hns : notSel ⟨some d, op, T, p, af, none⟩ = true) (hns' : notSel ⟨some e, op', T', p', af', none⟩ = true) (hlk : ((Oper.looksAt ops ⟨some d, op, T, p, af, none⟩).all fun t => (L.get t).isSome) = true) (hlk' : ((Oper.looksAt ops ⟨some e, op', T', p', af', none⟩).all fun t => (L.get t).isSome) = true)
    (hop : OpS P w0 L M ⟨some d, op, T, p, af, none⟩ K KP) (hop' : OpS P w0 L M ⟨some e, op', T', p', af', none⟩ K' KP')
    (hkk : ∀ v M', K v M' → Gives M' Mro ∧ AJ P w0 n ops Q Mro k (i :: D) ((d, v) :: L) M') (hkp : ∀ c M', KP c M' → XJ w0 n (.panic c) Q [] M')
    (hkk' : ∀ v M', K' v M' → Gives M' Mro ∧ AJ P w0 n ops Q Mro k (j :: D) ((e, v) :: L) M') (hkp' : ∀ c M', KP' c M' → XJ w0 n (.panic c) Q [] M') : AJ P w0 n ops Q Mro k D L M := by
  refine AJ.louds hor hn hk hne fun q hq => ?_
  rw [hv] at hq
  have hq' : q = i ∨ q = j := by simpa using hq
  rcases hq' with rfl | rfl
  · refine ⟨_, K, KP, ho, rfl, fun e he => (by injection he with he; subst he; simpa [Nat.blt_eq] using hd), fun e he => (by injection he with he; subst he; exact hf), hns, ?_, by simpa [Nat.blt_eq] using hik, hop, hkk, hkp⟩
    intro t ht
    exact Option.isSome_iff_exists.1 (List.all_eq_true.1 hlk t ht)
  · refine ⟨_, K', KP', ho', rfl, fun e' h => (by injection h with h; subst h; simpa [Nat.blt_eq] using he), fun e' h => (by injection h with h; subst h; exact hf'), hns', ?_, by simpa [Nat.blt_eq] using hjk, hop', hkk', hkp'⟩
    intro t ht
    exact Option.isSome_iff_exists.1 (List.all_eq_true.1 hlk' t ht)

/-- The operations from k on come in the text's order, behind all others. -/
theorem tail_any (ht : tailOk ops k = true) : ∀ (q m : Nat) (listed : Array Bool) (a : Act) (w : World), m + q = ops.size → k ≤ m → listed.size = ops.size → (∀ i, i < ops.size → (listed.getD i false = true ↔ i < m)) →
    wpList P ops Q (ops.toList.drop m) a w → ∀ fuel, q ≤ fuel → wpAny P .any ops Q fuel listed a w := by
  intro q
  induction q with
  | zero =>
    intro m listed a w hm hkm hsz hl hw fuel _
    have hdrop : ops.toList.drop m = [] := List.drop_eq_nil_of_le (by simp; omega)
    rw [hdrop] at hw
    have hr : Region.ready .any ops listed = [] := by
      refine List.eq_nil_iff_forall_not_mem.2 fun i hi => ?_
      obtain ⟨h1, h2, _⟩ := ready_spec hsz hi
      rw [(hl i h1).2 (by omega)] at h2
      cases h2
    cases fuel with
    | zero => exact ⟨hr, hw⟩
    | succ fuel => exact ⟨fun _ => hw, fun i hi => by rw [hr] at hi; cases hi⟩
  | succ q ih =>
    intro m listed a w hm hkm hsz hl hw fuel hf
    obtain ⟨fuel, rfl⟩ : ∃ f, fuel = f + 1 := ⟨fuel - 1, by omega⟩
    have hmlt : m < ops.size := by omega
    have hunl : listed.getD m false = false := by
      cases h : listed.getD m false with
      | false => rfl
      | true => have := (hl m hmlt).1 h; omega
    have only : ∀ i ∈ Region.ready .any ops listed, i = m := by
      intro i hi
      obtain ⟨h1, h2, o, ho, hdep⟩ := ready_spec hsz hi
      have hge : ¬ i < m := fun x => by rw [(hl i h1).2 x] at h2; cases h2
      by_cases him : i = m
      · exact him
      · exfalso
        have h3 := List.all_eq_true.1 ht i (by simpa using h1)
        rw [ho] at h3
        simp only [Bool.and_eq_true, Bool.or_eq_true, decide_eq_true_eq] at h3
        have h4 : (depsOf o).contains (i - 1) = true := by
          rcases h3.2 with h5 | ⟨_, h5 | h5⟩
          · omega
          · have : i = k := by simpa using h5
            omega
          · exact h5
        have := hdep (i - 1) (by simpa using h4)
        have := (hl (i - 1) (by omega)).1 this
        omega
    refine ⟨fun he => ?_, fun i hi => ?_⟩
    · exfalso
      have hmem : m ∈ Region.ready .any ops listed := by
        unfold Region.ready
        rw [List.mem_filter]
        refine ⟨by simpa using hmlt, ?_⟩
        have hgo : ops[m]? = some ops[m] := by simp [hmlt]
        have h1 := List.all_eq_true.1 ht m (by simpa using hmlt)
        rw [hgo] at h1 ⊢
        simp only at h1
        rw [Bool.and_eq_true] at h1
        rw [Bool.and_eq_true]
        constructor
        · have : m < listed.size := by omega
          simp [Array.getD, this] at hunl ⊢
          exact hunl
        · simp only [Option.map_some, Option.getD_some]
          rw [Array.all_eq_true']
          intro e he'
          have h2 := Array.all_eq_true'.1 h1.1 e he'
          cases hb : Region.binds .any e with
          | false => simp
          | true =>
            have h3 : e.on < m := by simpa [hb] using h2
            simp [(hl e.on (by omega)).2 h3]
      rw [he] at hmem
      cases hmem
    · obtain rfl := only i hi
      have hdrop : ops.toList.drop i = ops[i] :: ops.toList.drop (i + 1) := by
        rw [List.drop_eq_getElem_cons (by simpa using hmlt)]
        simp
      rw [hdrop] at hw
      have hgo : ops[i]? = some ops[i] := by simp [hmlt]
      have next : ∀ a w, wpList P ops Q (ops.toList.drop (i + 1)) a w → wpAny P .any ops Q fuel (listed.setIfInBounds i true) a w := by
        intro a w hw'
        refine ih (i + 1) _ a w (by omega) (by omega) (by simp [hsz]) ?_ hw' fuel (by omega)
        intro j hj
        by_cases hji : j = i
        · subst hji
          constructor
          · intro _; omega
          · intro _; simp [Array.getD, hj, hsz]
        · have h1 : (listed.setIfInBounds i true).getD j false = listed.getD j false := by
            simp only [Array.getD_eq_getD_getElem?]
            rw [Array.getElem?_setIfInBounds_ne (Ne.symm hji)]
          rw [h1, hl j hj]
          omega
      unfold wpList at hw
      unfold wpOp
      rw [hgo]
      simp only
      split
      · rename_i hwd
        rw [if_pos hwd] at hw
        exact hw.imp (Oper.wp_mono next) id
      · rename_i hwd
        rw [if_neg hwd] at hw
        exact next _ _ hw

theorem AJ.tail (hor : ordOk ops = true) (hn : namesOk ops k = true) (hk : Nat.ble k ops.size = true) (ht : tailOk ops k = true) (hD : ((List.range k).all (D.contains ·)) = true) (hD' : (D.all (Nat.blt · k)) = true) (kk : RL P w0 n ops Q (ops.toList.drop k) L M) : AJ P w0 n ops Q Mro k D L M := by
  have hk' : k ≤ ops.size := by simpa [Nat.ble_eq] using hk
  intro g fuel
  have hDk : ∀ i, i ∈ D ↔ i < k := by
    intro i
    constructor
    · intro h; simpa [Nat.blt_eq] using List.all_eq_true.1 hD' i h
    · intro h; simpa using List.all_eq_true.1 hD i (by simpa using h)
  have go : ∀ (Z : List Nat) (listed : Array Bool) (a : Act) (w : World) (h : Frag) (fuel : Nat), Z = [] → Real n ops k D Z L listed a → star M h → Sat w0 w h → ops.size - k ≤ fuel → wpAny P .any ops Q fuel listed a w := by
    intro Z listed a w h fuel hz r m s hf
    subst hz
    refine tail_any ht (ops.size - k) k listed a w (by omega) (Nat.le_refl _) r.lsz ?_ (kk a w h ⟨r.df, r.sz, fun t v e => r.ok t v e (by simp)⟩ m s) fuel hf
    intro i hi
    rw [r.lst i hi, hDk]
    simp
  have cnt : ∀ (Z : List Nat) (listed : Array Bool) (a : Act) (fuel : Nat), Real n ops k D Z L listed a → (List.range ops.size).countP (fun i => !listed.getD i false) ≤ fuel → ops.size - k ≤ fuel := by
    intro Z listed a fuel r hc
    refine Nat.le_trans ?_ hc
    have h1 : (List.range' k (ops.size - k)).countP (fun i => !listed.getD i false) = ops.size - k := by
      rw [List.countP_eq_length.2 (fun i hi => ?_)]
      · simp
      · rw [List.mem_range'_1] at hi
        cases hl : listed.getD i false with
        | false => rfl
        | true =>
          have := (r.lst i (by omega)).1 hl
          have := (hDk i).1 this.1
          omega
    have h2 : List.range ops.size = List.range k ++ List.range' k (ops.size - k) := by
      have e := @List.range'_append_1 0 k (ops.size - k)
      rw [Nat.zero_add] at e
      rw [List.range_eq_range', List.range_eq_range', e]
      congr 1
      omega
    rw [h2, List.countP_append, h1]
    omega
  induction fuel with
  | zero =>
    intro Z listed a w h r hp m s hc
    have hl := all_listed hc
    have hz : Z = [] := by
      cases Z with
      | nil => rfl
      | cons i Z =>
        have h1 := r.zd i (by simp)
        have := (r.lst i (r.dk i h1.1)).1 (hl i (r.dk i h1.1))
        exact absurd (by simp) this.2
    exact go Z listed a w h 0 hz r m s (cnt Z listed a 0 r hc)
  | succ fuel ih =>
    intro Z listed a w h r hp m s hc
    by_cases hz : Z = []
    · exact go Z listed a w h (fuel + 1) hz r m s (cnt Z listed a _ r hc)
    · refine ⟨fun he => ?_, fun i hi => ?_⟩
      · exfalso
        have hl := ready_all hor r.lsz he
        obtain ⟨i, hi⟩ := List.exists_mem_of_ne_nil Z hz
        have h1 := r.zd i hi
        have := (r.lst i (r.dk i h1.1)).1 (hl i (r.dk i h1.1))
        exact this.2 hi
      · obtain ⟨hlt, hnl, o, ho, hdep⟩ := ready_spec r.lsz hi
        by_cases hiz : i ∈ Z
        · refine pend_step (L := L) (D := D) (Z := Z) (M := M) hn hk' r hi hiz (hp i hiz) m g s ?_
          intro a' r'
          exact ih _ _ a' w h r' (fun j hj => hp j (List.mem_filter.1 hj).1) m s (count_less hlt r.lsz hnl hc)
        · exfalso
          have hik : ¬ i < k := fun x => by
            have := (r.lst i hlt).2 ⟨(hDk i).2 x, hiz⟩
            rw [hnl] at this; cases this
          have h3 := List.all_eq_true.1 ht i (by simpa using hlt)
          rw [ho] at h3
          simp only [Bool.and_eq_true, Bool.or_eq_true, decide_eq_true_eq] at h3
          obtain ⟨j, hj⟩ := List.exists_mem_of_ne_nil Z hz
          have hjk := (r.zd j hj).2
          rcases h3.2 with h5 | ⟨h5, _⟩
          · exact hik h5
          · have := List.all_eq_true.1 h5 j (by simpa using hjk)
            have := hdep j (by simpa using this)
            have := (r.lst j (by omega)).1 this
            exact this.2 hj

/-- A region that draws its order: k of its operations in any order, the rest behind them. -/
theorem CJ.draws {i : Nat} {l : List Oper} (hm : P.follows .mixedOrders = true) (k : Nat) (Mro : List HProp) (hg : Gives M Mro) (hdom : ∀ t v, L.get t = some v → t < n) (kk : AJ P w0 n l.toArray Q Mro k [] L M) : CJ P w0 n (.region i l.toArray true) Q L M := by
  intro a w h s m sa
  refine wp_region_any hm ?_
  refine kk hg _ [] _ a _ h ?_ (fun _ hi => by cases hi) m (sa.drawn _) ?_
  · refine ⟨by simp, ?_, by simp, by simp, s.df, s.sz, hdom, fun t v e _ => s.ok t v e⟩
    intro i hi
    simp [Array.getD]
  · refine Nat.le_trans List.countP_le_length ?_
    simp
end
end Go.Proofs.YtgmapenlgammfaaGreatDoor

/- Maps over the separation logic: keys that are strings or whole numbers; look-up, store, delete, make. -/
namespace Go.Proofs.YtgmapenlgammfaaGreatDoor
open Go Go.RowKit
attribute [local semireducible] Takes Gives Ev XJ CJ RL Spec pt ro OpP OpS HasAt

/-- The keys of a map: values enc k. -/
class KeyT (P : Program) (K : TypeId) (κ : outParam Type) [DecidableEq κ] (enc : outParam (κ → Value)) : Prop where
  und : ∃ d, P.underlying K = some d ∧ (∀ a b, Instr.sameNow d (enc a) (enc b) = some (decide (a = b)))
  check : ∀ e k w, (Instr.checkKey e 10000 K (enc k)).run P w = .ok () w
  bits : ∀ k, Instr.sameBits 10000 (enc k) (enc k) = true
theorem ba_beq (a b : ByteArray) : (a == b) = decide (a = b) := by
  cases a with | mk a => cases b with | mk b =>
  show (a == b) = _
  rw [Bool.eq_iff_iff]
  simp
theorem run_checkKey {P : Program} {K : TypeId} {d : TypeDesc} (h : P.underlying K = some d) (hd : ∀ ms, d ≠ .interface ms) (hd2 : ∀ n e, d ≠ .array n e) (hd3 : ∀ f, d ≠ .struct f) (e : Bool) (v : Value) (n : Nat) (w : World) : (Instr.checkKey e (n + 1) K v).run P w = .ok () w := by
  unfold Instr.checkKey
  simp only [Sem.run_bind, run_und h, Result.andThen_ok]
  cases d <;> first | exact absurd rfl (hd _) | exact absurd rfl (hd2 _ _) | exact absurd rfl (hd3 _) | rfl
theorem KeyT.string {P : Program} {K : TypeId} (h : P.underlying K = some .string) : KeyT P K ByteArray Value.string where
  und := ⟨_, h, fun a b => by simp [Instr.sameNow, ba_beq]⟩
  check := fun e k w => run_checkKey h (fun _ => by simp) (fun _ _ => by simp) (fun _ => by simp) e _ 9999 w
  bits := fun k => by simp [Instr.sameBits, ba_beq]
theorem KeyT.int {P : Program} {K : TypeId} {q : IntKind} (h : P.underlying K = some (.int q)) : KeyT P K Int (Value.int q) where
  und := ⟨_, h, fun a b => by simp only [Instr.sameNow, if_true]; congr 1⟩
  check := fun e k w => run_checkKey h (fun _ => by simp) (fun _ _ => by simp) (fun _ => by simp) e _ 9999 w
  bits := fun k => by simp [Instr.sameBits]

section
variable {κ : Type} [DecidableEq κ] {enc : κ → Value}
def lk (kvs : List (κ × Value)) (k : κ) : Option Value := match kvs with
  | [] => none
  | (a, v) :: r => if k = a then some v else lk r k
def upd (m : κ → Option Value) (k : κ) (v : Value) : κ → Option Value := fun j => if j = k then some v else m j
def del (m : κ → Option Value) (k : κ) : κ → Option Value := fun j => if j = k then none else m j
def MapIs (enc : κ → Value) (es : Array MapEntry) (m : κ → Option Value) : Prop :=
  ∃ kvs : List (κ × Value), es.toList.map (fun e => (e.key, e.val)) = kvs.map (fun p => (enc p.1, p.2)) ∧ (kvs.map (·.1)).Nodup ∧ m = lk kvs
def mp (enc : κ → Value) (r : Nat) (m : κ → Option Value) : HProp := fun h => ∃ es clk, h r = some (.rw (.map es clk)) ∧ MapIs enc es m
def rmp (enc : κ → Value) (r : Nat) (m : κ → Option Value) : HProp := fun h => ∃ es clk, h r = some (.ro (.map es clk)) ∧ MapIs enc es m

theorem find_spec {d : TypeDesc} (hs : ∀ a b, Instr.sameNow d (enc a) (enc b) = some (decide (a = b))) (k : κ) : ∀ (es : List MapEntry) (kvs : List (κ × Value)) (i : Nat), es.map (fun e => (e.key, e.val)) = kvs.map (fun p => (enc p.1, p.2)) →
    (lk kvs k = none → Instr.findNow d (enc k) es i = some none) ∧
    (∀ v, lk kvs k = some v → ∃ j, Instr.findNow d (enc k) es i = some (some (i + j, v)) ∧ j < kvs.length ∧ (kvs.map (·.1))[j]? = some k) := by
  intro es
  induction es with
  | nil =>
    intro kvs i e
    cases kvs with
    | nil => exact ⟨fun _ => rfl, fun v h => by simp [lk] at h⟩
    | cons p r => simp at e
  | cons x es ih =>
    intro kvs i e
    cases kvs with
    | nil => simp at e
    | cons p r =>
      obtain ⟨a, v⟩ := p
      simp only [List.map_cons, List.cons.injEq, Prod.mk.injEq] at e
      obtain ⟨⟨e1, e2⟩, e3⟩ := e
      obtain ⟨h1, h2⟩ := ih r (i + 1) e3
      unfold lk
      by_cases hk : k = a
      · subst hk
        simp only [if_true]
        refine ⟨fun h => (by cases h), fun u hu => ?_⟩
        injection hu with hu
        subst hu
        refine ⟨0, ?_, by simp, by simp⟩
        unfold Instr.findNow
        rw [e1, hs]
        simp [e2]
      · simp only [if_neg hk]
        have hf : ∀ i, Instr.findNow d (enc k) (x :: es) i = Instr.findNow d (enc k) es (i + 1) := by
          intro i
          conv => lhs; unfold Instr.findNow
          rw [e1, hs]
          simp [hk]
        refine ⟨fun h => by rw [hf]; exact h1 h, fun u hu => ?_⟩
        obtain ⟨j, h3, h4, h5⟩ := h2 u hu
        refine ⟨j + 1, by rw [hf, h3]; congr 3; omega, by simp; omega, by simpa using h5⟩

theorem lk_push (kvs : List (κ × Value)) (k : κ) (v : Value) (h : lk kvs k = none) : lk (kvs ++ [(k, v)]) = upd (lk kvs) k v := by
  funext j
  induction kvs with
  | nil => simp [lk, upd]
  | cons p r ih =>
    obtain ⟨a, u⟩ := p
    simp only [lk] at h
    by_cases hk : k = a
    · simp [hk] at h
    · rw [if_neg hk] at h
      have := ih h
      simp only [List.cons_append, lk, upd] at this ⊢
      by_cases hj : j = a
      · subst hj; simp [Ne.symm hk]
      · simp [hj, this]
theorem lk_set : ∀ (kvs : List (κ × Value)) (k : κ) (v : Value) (i : Nat), (kvs.map (·.1)).Nodup → (kvs.map (·.1))[i]? = some k → lk (kvs.modify i (fun p => (p.1, v))) = upd (lk kvs) k v := by
  intro kvs
  induction kvs with
  | nil => intro k v i _ h; simp at h
  | cons p r ih =>
    intro k v i hn h
    obtain ⟨a, u⟩ := p
    funext j
    cases i with
    | zero =>
      simp at h
      subst h
      simp only [List.modify_zero_cons, lk, upd]
      by_cases hj : j = a
      · simp [hj]
      · simp [hj]
    | succ i =>
      simp only [List.map_cons, List.nodup_cons] at hn
      simp at h
      have := congrFun (ih k v i hn.2 (by simpa using h)) j
      simp only [List.modify_succ_cons, lk, upd] at this ⊢
      by_cases hj : j = a
      · subst hj
        have hne : j ≠ k := by
          intro e
          subst e
          apply hn.1
          obtain ⟨x, hx⟩ := h
          exact List.mem_map.2 ⟨(j, x), List.mem_of_getElem? hx, rfl⟩
        simp [hne]
      · simp [hj, this]
theorem lk_del : ∀ (kvs : List (κ × Value)) (k : κ) (i : Nat), (kvs.map (·.1)).Nodup → (kvs.map (·.1))[i]? = some k → lk (kvs.eraseIdx i) = del (lk kvs) k := by
  intro kvs
  induction kvs with
  | nil => intro k i _ h; simp at h
  | cons p r ih =>
    intro k i hn h
    obtain ⟨a, u⟩ := p
    simp only [List.map_cons, List.nodup_cons] at hn
    funext j
    cases i with
    | zero =>
      simp at h
      subst h
      simp only [List.eraseIdx_zero, List.tail_cons, lk, del]
      by_cases hj : j = a
      · subst hj
        simp only [if_true]
        have : ∀ l : List (κ × Value), j ∉ l.map (·.1) → lk l j = none := by
          intro l
          induction l with
          | nil => intro _; rfl
          | cons q l ihl =>
            intro hq
            obtain ⟨b, z⟩ := q
            simp only [List.map_cons, List.mem_cons, not_or] at hq
            simp [lk, hq.1, ihl hq.2]
        exact this r hn.1
      · simp [hj]
    | succ i =>
      simp at h
      have := congrFun (ih k i hn.2 (by simpa using h)) j
      simp only [List.eraseIdx_cons_succ, lk, del] at this ⊢
      by_cases hj : j = a
      · subst hj
        have hne : j ≠ k := by
          intro e
          subst e
          apply hn.1
          obtain ⟨x, hx⟩ := h
          exact List.mem_map.2 ⟨(j, x), List.mem_of_getElem? hx, rfl⟩
        simp [hne]
      · simp [hj, this]
theorem map_eraseIdx' {α β : Type} (f : α → β) : ∀ (l : List α) (i : Nat), (l.eraseIdx i).map f = (l.map f).eraseIdx i
  | [], i => by simp
  | x :: l, 0 => by simp
  | x :: l, i + 1 => by simp [map_eraseIdx' f l i]
theorem lk_none_mem : ∀ (kvs : List (κ × Value)) (k : κ), lk kvs k = none → k ∉ kvs.map (·.1) := by
  intro kvs
  induction kvs with
  | nil => intro k _; simp
  | cons p r ih =>
    intro k h
    obtain ⟨a, u⟩ := p
    simp only [lk] at h
    by_cases hk : k = a
    · simp [hk] at h
    · rw [if_neg hk] at h
      simp [hk, ih k h]
theorem MapIs.empty : MapIs enc #[] (fun _ => none) := ⟨[], rfl, by simp, rfl⟩
end

section
variable {P : Program} {w0 : World} {L : Env} {M : List HProp} {d : Option Tmp} {T : TypeId} {p : String} {af : Array Edge} {g : Option (Nat × Bool)}
variable {κ : Type} [DecidableEq κ] {enc : κ → Value}

/-- A map that is there to be read. -/
def HasMap (w0 : World) (M : List HProp) (enc : κ → Value) (r : Nat) (m : κ → Option Value) : Prop := ∀ w h, star M h → Sat w0 w h → ∃ es clk, w.heap[r]? = some (.map es clk) ∧ MapIs enc es m
theorem HasMap.mp {r : Nat} {m : κ → Option Value} {M' : List HProp} (t : Takes M [Go.Proofs.YtgmapenlgammfaaGreatDoor.mp enc r m] M') : HasMap w0 M enc r m := fun w h mm s => by
  obtain ⟨h1, h2, l1, l2, dd, ⟨es, clk, a, mi⟩, m2⟩ := t h mm
  exact ⟨es, clk, (s.own r _ (l1 r _ a)).2, mi⟩
theorem HasMap.rmp {r : Nat} {m : κ → Option Value} {M' : List HProp} (t : Takes M [Go.Proofs.YtgmapenlgammfaaGreatDoor.rmp enc r m] M') : HasMap w0 M enc r m := fun w h mm s => by
  obtain ⟨h1, h2, l1, l2, dd, ⟨es, clk, a, mi⟩, m2⟩ := t h mm
  exact ⟨es, clk, (s.own r _ (l1 r _ a)).2, mi⟩
theorem run_findKey {K : TypeId} [k : KeyT P K κ enc] {es : Array MapEntry} {m : κ → Option Value} (mi : MapIs enc es m) (x : κ) (w : World) :
    (m x = none ∧ (Instr.findKey K (enc x) es.toList).run P w = .ok none w) ∨ (∃ v j kvs, m x = some v ∧ (Instr.findKey K (enc x) es.toList).run P w = .ok (some (j, v)) w ∧ es.toList.map (fun e => (e.key, e.val)) = kvs.map (fun p => (enc p.1, p.2)) ∧ (kvs.map (·.1)).Nodup ∧ m = lk kvs ∧ (kvs.map (·.1))[j]? = some x) := by
  obtain ⟨dd, hd, hs⟩ := k.und
  obtain ⟨kvs, e, hn, rfl⟩ := mi
  obtain ⟨h1, h2⟩ := find_spec hs x es.toList kvs 0 e
  cases hx : lk kvs x with
  | none =>
    refine .inl ⟨rfl, ?_⟩
    simp [Instr.findKey, run_und hd, h1 hx]
  | some v =>
    obtain ⟨j, h3, h4, h5⟩ := h2 v hx
    refine .inr ⟨v, j, kvs, rfl, ?_, e, hn, rfl, h5⟩
    simp [Instr.findKey, run_und hd, h3]
theorem run_lookup {t : TypeId} {K E : Nat} {z : Value} [q : MapT P t K E] [k : KeyT P K κ enc] [zz : ZeroT P E z] {r : Nat} {m : κ → Option Value} {w : World} {es : Array MapEntry} {clk : Nat} (hh : w.heap[r]? = some (.map es clk)) (mi : MapIs enc es m) (x : κ) (ok : Bool) :
    (Instr.lookup t (.map (some r)) (enc x) ok).run P w = .ok (if ok then .tuple #[(m x).getD z, .bool (m x).isSome] else (m x).getD z) w := by
  have hg : (getObj r).run P w = .ok (.map es clk) w := by simp [getObj, Sem.run, hh]
  rcases run_findKey (P := P) (K := K) mi x w with ⟨h1, h2⟩ | ⟨v, j, kvs, h1, h2, _⟩
  · simp only [Instr.lookup, Sem.run_bind, run_und q.und, Result.andThen_ok, hg, Sem.run_pure, k.check, h2, h1, zz.run]
    cases ok <;> rfl
  · simp only [Instr.lookup, Sem.run_bind, run_und q.und, Result.andThen_ok, hg, Sem.run_pure, k.check, h2, h1]
    cases ok <;> rfl
theorem OpP.lookupOk {t : TypeId} {K E : Nat} {z : Value} {x i : Operand} [q : MapT P t K E] [k : KeyT P K κ enc] [zz : ZeroT P E z] {r : Nat} {m : κ → Option Value} {y : κ} (hx : Ev L x (.map (some r))) (hi : Ev L i (enc y)) (hm : HasMap w0 M enc r m) :
    OpP P w0 L M ⟨d, .lookup t x i true, T, p, af, g⟩ (.tuple #[(m y).getD z, .bool (m y).isSome]) := fun n a w h s mm sa => by
  obtain ⟨es, clk, hh, mi⟩ := hm w h mm sa
  have e := run_lookup (P := P) (t := t) hh mi y true
  simp only [execOp, hx n a s, hi n a s, Sem.run_bind, e, Result.andThen_ok, Sem.run_pure, if_true]
theorem OpP.lookup {t : TypeId} {K E : Nat} {z : Value} {x i : Operand} [q : MapT P t K E] [k : KeyT P K κ enc] [zz : ZeroT P E z] {r : Nat} {m : κ → Option Value} {y : κ} (hx : Ev L x (.map (some r))) (hi : Ev L i (enc y)) (hm : HasMap w0 M enc r m) :
    OpP P w0 L M ⟨d, .lookup t x i false, T, p, af, g⟩ ((m y).getD z) := fun n a w h s mm sa => by
  obtain ⟨es, clk, hh, mi⟩ := hm w h mm sa
  have e := run_lookup (P := P) (t := t) hh mi y false
  simp only [execOp, hx n a s, hi n a s, Sem.run_bind, e, Result.andThen_ok, Sem.run_pure, Bool.false_eq_true, if_false]

theorem sat_mapPut {w : World} {h : Frag} {r : Nat} {m m' : κ → Option Value} {M' : List HProp} {es' : Array MapEntry} {clk' : Nat} (sa : Sat w0 w h) (t : star (mp enc r m :: M') h) (mi' : MapIs enc es' m') :
    ∃ h', star (mp enc r m' :: M') h' ∧ Sat w0 { w with heap := w.heap.setIfInBounds r (.map es' clk') } h' := by
  obtain ⟨h1, h2, l1, l2, dd, ⟨es, clk, a, mi⟩, m2⟩ := t
  have t' : star (pt r (.map es clk) :: M') h := ⟨h1, h2, l1, l2, dd, a, m2⟩
  have hlt := sa.lt (l1 r _ a)
  obtain ⟨h', t2, s2⟩ := sa.put (o' := .map es' clk') (w' := { w with heap := w.heap.setIfInBounds r (.map es' clk') }) t' rfl rfl rfl (by simp) (fun i hi => by simp [Array.getElem?_setIfInBounds_ne (Ne.symm hi)]) (by simp [hlt])
  obtain ⟨h3, h4, l3, l4, d3, a3, m4⟩ := t2
  exact ⟨h', ⟨h3, h4, l3, l4, d3, ⟨es', clk', a3, mi'⟩, m4⟩, s2⟩
theorem OpS.mapUpdate {t : TypeId} {K E : Nat} {x i y : Operand} [q : MapT P t K E] [k : KeyT P K κ enc] {r : Nat} {m : κ → Option Value} {c : κ} {v : Value} {M' : List HProp} (hx : Ev L x (.map (some r))) (hi : Ev L i (enc c)) (hy : Ev L y v) (hm : Takes M [mp enc r m] M') :
    OpS P w0 L M ⟨d, .mapUpdate t x i y, T, p, af, g⟩ (fun _ N => N = mp enc r (upd m c v) :: M') noP := fun n a w h s mm sa => by
  have tk := hm h mm
  obtain ⟨h1, h2, l1, l2, dd, ⟨es, clk, ha, mi⟩, m2⟩ := id tk
  have hh := (sa.own r _ (l1 r _ ha)).2
  have hg : (getObj r).run P w = .ok (.map es clk) w := by
    have : w.heap[r]? = some (.map es clk) := hh
    simp [getObj, Sem.run, this]
  have hset : ∀ es' clk', (setObj r (.map es' clk')).run P w = .ok () { w with heap := w.heap.setIfInBounds r (.map es' clk') } := by
    intro es' clk'
    have : w.heap[r]? = some (.map es clk) := hh
    simp [setObj, Sem.run, this]
  rcases run_findKey (P := P) (K := K) mi c w with ⟨e1, e2⟩ | ⟨u, j, kvs, e1, e2, e3, e4, e5, e6⟩
  · have mi' : MapIs enc (es.push { key := enc c, val := v, born := clk }) (upd m c v) := by
      obtain ⟨kvs, f1, f2, rfl⟩ := mi
      refine ⟨kvs ++ [(c, v)], by simp [f1], ?_, (lk_push kvs c v e1).symm⟩
      rw [List.map_append, List.nodup_append]
      refine ⟨f2, by simp, ?_⟩
      intro a ha b hb
      simp at hb
      subst hb
      intro e
      subst e
      exact lk_none_mem kvs _ e1 ha
    obtain ⟨h', t', s'⟩ := sat_mapPut (clk' := clk + 1) sa tk mi'
    simp only [execOp, hx n a s, hi n a s, hy n a s, Instr.mapUpdate, Sem.run_bind, run_und q.und, Result.andThen_ok, hg, k.check, e2, hset, Sem.run_pure, ResS]
    exact ⟨_, h', rfl, t', s'⟩
  · have hlen : kvs.length = es.size := by have := congrArg List.length e3; simpa using this.symm
    have hjl : j < es.size := by
      rcases Nat.lt_or_ge j kvs.length with x | x
      · omega
      · rw [List.getElem?_eq_none (by simpa using x)] at e6; cases e6
    have hkey : ((es[j]?).map (·.key)).getD (enc c) = enc c := by
      have h3 := congrArg (fun l => l[j]?) e3
      simp only [List.getElem?_map] at h3
      rw [List.getElem?_map] at e6
      cases hk : kvs[j]? with
      | none => rw [hk] at e6; cases e6
      | some pp =>
        rw [hk] at e6 h3
        simp at e6
        have he : es.toList[j]? = es[j]? := by simp
        rw [he] at h3
        cases hj : es[j]? with
        | none => simp
        | some en => rw [hj] at h3; simp at h3; simp [h3.1, e6]
    have mi' : MapIs enc (es.modify j fun e => { e with key := enc c, val := v }) (upd m c v) := by
      refine ⟨kvs.modify j (fun p => (p.1, v)), ?_, ?_, ?_⟩
      · apply List.ext_getElem?
        intro b
        have h3 := congrArg (fun l => l[b]?) e3
        simp only [List.getElem?_map] at h3 ⊢
        rw [Array.getElem?_toList] at h3 ⊢
        rw [Array.getElem?_modify, List.getElem?_modify]
        by_cases hb : j = b
        · subst hb
          rw [List.getElem?_map] at e6
          cases hk : kvs[j]? with
          | none => rw [hk] at e6; cases e6
          | some pp =>
            rw [hk] at e6 h3
            simp at e6
            cases hj : es[j]? with
            | none => rw [hj] at h3; simp at h3
            | some en => simp [e6]
        · simp only [hb, if_false]
          cases hk : kvs[b]? with
          | none => rw [hk] at h3; simpa using h3
          | some pp => rw [hk] at h3; simpa using h3
      · have : (kvs.modify j (fun p => (p.1, v))).map (·.1) = kvs.map (·.1) := by
          apply List.ext_getElem?
          intro b
          simp only [List.getElem?_map, List.getElem?_modify]
          by_cases hb : j = b
          · subst hb; cases kvs[j]? <;> simp
          · simp [hb]
        rw [this]; exact e4
      · rw [e5]; exact (lk_set kvs c v j e4 e6).symm
    obtain ⟨h', t', s'⟩ := sat_mapPut (clk' := clk) sa tk mi'
    have hstay : (Instr.keyThatStays (((es[j]?).map (·.key)).getD (enc c)) (enc c)).run P w = .ok (enc c) w := by
      rw [hkey]
      simp [Instr.keyThatStays, k.bits]
    simp only [execOp, hx n a s, hi n a s, hy n a s, Instr.mapUpdate, Sem.run_bind, run_und q.und, Result.andThen_ok, hg, k.check, e2, hstay, hset, Sem.run_pure, ResS]
    exact ⟨_, h', rfl, t', s'⟩
theorem OpS.insert {t : TypeId} {K E : Nat} {x i y : Operand} [q : MapT P t K E] [k : KeyT P K κ enc] {r : Nat} {m : κ → Option Value} {c : κ} {v : Value} {M' : List HProp} (hx : Ev L x (.map (some r))) (hi : Ev L i (enc c)) (hy : Ev L y v) (hm : Takes M [mp enc r m] M') :
    OpS P w0 L M ⟨d, .insert t x i y, T, p, af, g⟩ (fun _ N => N = mp enc r (upd m c v) :: M') noP := fun n a w h s mm sa => OpS.mapUpdate (T := T) (p := p) (af := af) (g := g) (d := d) hx hi hy hm n a w h s mm sa
theorem OpS.delete {ts : List TypeId} {t : TypeId} {K E : Nat} {x i : Operand} {r : Nat} {m : κ → Option Value} {c : κ} {M' : List HProp} [q : MapT P t K E] [k : KeyT P K κ enc] (hx : Ev L x (.map (some r))) (hi : Ev L i (enc c)) (hm : Takes M [mp enc r m] M') :
    OpS P w0 L M ⟨d, .call { callee := .builtin .delete, args := #[x, i], argTypes := (t :: ts).toArray }, T, p, af, g⟩ (fun _ N => N = mp enc r (del m c) :: M') noP := fun n a w h s mm sa => by
  have tk := hm h mm
  obtain ⟨h1, h2, l1, l2, dd, ⟨es, clk, ha, mi⟩, m2⟩ := id tk
  have hh := (sa.own r _ (l1 r _ ha)).2
  have hg : (getObj r).run P w = .ok (.map es clk) w := by
    have : w.heap[r]? = some (.map es clk) := hh
    simp [getObj, Sem.run, this]
  have hset : ∀ es' clk', (setObj r (.map es' clk')).run P w = .ok () { w with heap := w.heap.setIfInBounds r (.map es' clk') } := by
    intro es' clk'
    have : w.heap[r]? = some (.map es clk) := hh
    simp [setObj, Sem.run, this]
  rcases run_findKey (P := P) (K := K) mi c w with ⟨e1, e2⟩ | ⟨u, j, kvs, e1, e2, e3, e4, e5, e6⟩
  · have hm' : del m c = m := by
      funext y
      unfold del
      by_cases hy : y = c
      · subst hy; simp [e1]
      · simp [hy]
    obtain ⟨h', t', s'⟩ := sat_mapPut (clk' := clk) sa tk mi
    simp only [execOp, resolve, invoke, builtin, hx n a s, hi n a s, Builtin.delete_, Sem.run_bind, List.map_toArray, List.map_cons, List.map_nil, List.getElem?_toArray, List.getElem?_cons_zero, List.getElem?_cons_succ, run_und q.und, Result.andThen_ok, hg, k.check, e2, hset, Sem.run_pure, ResS, hm']
    exact ⟨_, h', rfl, t', s'⟩
  · have hlen : kvs.length = es.size := by have := congrArg List.length e3; simpa using this.symm
    have mi' : MapIs enc (es.eraseIdxIfInBounds j) (del m c) := by
      refine ⟨kvs.eraseIdx j, ?_, ?_, ?_⟩
      · have : (es.eraseIdxIfInBounds j).toList = es.toList.eraseIdx j := by
          unfold Array.eraseIdxIfInBounds
          split
          · simp
          · rw [List.eraseIdx_of_length_le (by simp; omega)]
        rw [this, map_eraseIdx', e3, map_eraseIdx']
      · rw [map_eraseIdx']; exact e4.sublist (List.eraseIdx_sublist _ _)
      · rw [e5]; exact (lk_del kvs c j e4 e6).symm
    obtain ⟨h', t', s'⟩ := sat_mapPut (clk' := clk) sa tk mi'
    simp only [execOp, resolve, invoke, builtin, hx n a s, hi n a s, Builtin.delete_, Sem.run_bind, List.map_toArray, List.map_cons, List.map_nil, List.getElem?_toArray, List.getElem?_cons_zero, List.getElem?_cons_succ, run_und q.und, Result.andThen_ok, hg, k.check, e2, hset, Sem.run_pure, ResS]
    exact ⟨_, h', rfl, t', s'⟩
theorem OpS.makeMap {t : TypeId} : OpS P w0 L M ⟨d, .makeMap t none, T, p, af, g⟩ (fun v N => ∃ r, v = .map (some r) ∧ N = mp enc r (fun _ => none) :: M) noP := fun n a w h s mm sa => by
  obtain ⟨h', ⟨h1, h2, l1, l2, dd, ha, m2⟩, s'⟩ := sa.push mm (.map #[] 0)
  simp only [execOp, Instr.makeMap, Option.map_none, Sem.run_bind, newObj, Sem.run, Result.andThen_ok, Sem.run_pure, Sem.run_pure', ResS]
  exact ⟨_, h', ⟨_, rfl, rfl⟩, ⟨h1, h2, l1, l2, dd, ⟨_, _, ha, MapIs.empty⟩, m2⟩, s'⟩
end
section
variable {P : Program} {w0 : World} {n : Nat} {ops : Array Oper} {Q : Exit → Act → World → Prop} {L : Env} {M : List HProp} {l : List Oper} {T : TypeId} {p : String} {af : Array Edge}
variable {κ : Type} [DecidableEq κ] {enc : κ → Value}
theorem RL.mapUpdate {t : TypeId} {K E : Nat} {x i y : Operand} [q : MapT P t K E] [k : KeyT P K κ enc] {r : Nat} {m : κ → Option Value} {c : κ} {v : Value} {M' : List HProp} (hx : Ev L x (.map (some r))) (hi : Ev L i (enc c)) (hy : Ev L y v) (hm : Takes M [mp enc r m] M')
    (kk : RL P w0 n ops Q l L (mp enc r (upd m c v) :: M')) : RL P w0 n ops Q (⟨none, .mapUpdate t x i y, T, p, af, none⟩ :: l) L M := RL.s0 (OpS.mapUpdate hx hi hy hm) (by rintro _ _ rfl; exact kk) (fun _ _ h => h.elim)
theorem RL.insert {t : TypeId} {K E : Nat} {x i y : Operand} [q : MapT P t K E] [k : KeyT P K κ enc] {r : Nat} {m : κ → Option Value} {c : κ} {v : Value} {M' : List HProp} (hx : Ev L x (.map (some r))) (hi : Ev L i (enc c)) (hy : Ev L y v) (hm : Takes M [mp enc r m] M')
    (kk : RL P w0 n ops Q l L (mp enc r (upd m c v) :: M')) : RL P w0 n ops Q (⟨none, .insert t x i y, T, p, af, none⟩ :: l) L M := RL.s0 (OpS.insert hx hi hy hm) (by rintro _ _ rfl; exact kk) (fun _ _ h => h.elim)
theorem RL.delete {ts : List TypeId} {t : TypeId} {K E : Nat} {x i : Operand} [q : MapT P t K E] [k : KeyT P K κ enc] {r : Nat} {m : κ → Option Value} {c : κ} {M' : List HProp} (hx : Ev L x (.map (some r))) (hi : Ev L i (enc c)) (hm : Takes M [mp enc r m] M')
    (kk : RL P w0 n ops Q l L (mp enc r (del m c) :: M')) : RL P w0 n ops Q (⟨none, .call { callee := .builtin .delete, args := #[x, i], argTypes := (t :: ts).toArray }, T, p, af, none⟩ :: l) L M := RL.s0 (OpS.delete hx hi hm) (by rintro _ _ rfl; exact kk) (fun _ _ h => h.elim)
theorem RL.makeMap {d : Nat} {t : TypeId} (hd : Nat.blt d n = true) (enc : κ → Value) (kk : ∀ r, RL P w0 n ops Q l ((d, .map (some r)) :: L) (mp enc r (fun _ => none) :: M)) : RL P w0 n ops Q (⟨some d, .makeMap t none, T, p, af, none⟩ :: l) L M :=
  RL.s (OpS.makeMap (enc := enc)) hd (by rintro _ _ ⟨r, rfl, rfl⟩; exact kk r) (fun _ _ h => h.elim)
end
attribute [irreducible] HasMap mp rmp
end Go.Proofs.YtgmapenlgammfaaGreatDoor

/- Slices that a function owns: rows; append; what may be read by all; sets as maps. Plain lemmas, no statement of the program. -/
namespace Go.Proofs.YtgmapenlgammfaaGreatDoor
open Go Go.RowKit
attribute [local semireducible] Takes Gives Ev XJ CJ RL Spec pt ro OpP OpS HasAt HasMap mp rmp

class AppT (P : Program) (T : TypeId) (E sz bytes : outParam Nat) (zc : outParam (List Value)) : Prop where
  ex : ∃ i z, P.underlying T = some (.slice E) ∧ P.info? E = some i ∧ i.zero = some z ∧ i.size = sz ∧ i.bytes = bytes ∧ z.cells = zc.toArray ∧ zc.length = sz ∧ 0 < sz
def appB (P : Program) (T : TypeId) : Option (Nat × Nat × Nat × List Value) := match P.underlying T with
  | some (.slice E) => match P.info? E with
    | some i => match i.zero with
      | some z => some (E, i.size, i.bytes, z.cells.toList)
      | none => none
    | none => none
  | _ => none
theorem AppT.of {P : Program} {T E sz bytes : Nat} {zc : List Value} (h : appB P T = some (E, sz, bytes, zc)) (hz : Nat.beq zc.length sz = true) (h0 : Nat.blt 0 sz = true) : AppT P T E sz bytes zc := by
  unfold appB at h
  cases hu : P.underlying T with
  | none => rw [hu] at h; cases h
  | some d =>
    rw [hu] at h
    cases d <;> try (cases h; done)
    rename_i e
    simp only at h
    cases hi : P.info? e with
    | none => rw [hi] at h; cases h
    | some i =>
      rw [hi] at h
      simp only at h
      cases hzz : i.zero with
      | none => rw [hzz] at h; cases h
      | some z =>
        rw [hzz] at h
        simp only [Option.some.injEq, Prod.mk.injEq] at h
        obtain ⟨rfl, rfl, rfl, rfl⟩ := h
        exact ⟨i, z, hu, hi, hzz, rfl, rfl, by simp, Nat.eq_of_beq_eq_true hz, by simpa [Nat.blt_eq] using h0⟩

/-! ### what may be read by all, and what is read-only from here on -/
def roPart (h : Frag) : Frag := fun i => match h i with
  | some (.ro o) => some (.ro o)
  | _ => none
def Pers (A : HProp) : Prop := ∀ h, A h → A (roPart h)
theorem roPart_le (h : Frag) : Fle (roPart h) h := by
  intro i c e
  unfold roPart at e
  split at e
  · rename_i o ho; rw [ho]; exact e
  · cases e
theorem Takes.pers {A : HProp} {M : List HProp} (p : Pers A) : Takes (A :: M) [A] (A :: M) := by
  rintro h ⟨h1, h2, l1, l2, d, a, m⟩
  refine ⟨roPart h1, h, (roPart_le h1).trans l1, Fle.refl h, ?_, p h1 a, ⟨h1, h2, l1, l2, d, a, m⟩⟩
  intro i o
  constructor
  · intro e
    unfold roPart at e
    split at e <;> cases e
  · intro e
    cases x : roPart h1 i with
    | none => rfl
    | some c =>
      exfalso
      have h3 := l1 i c (roPart_le h1 i c x)
      rw [e] at h3
      unfold roPart at x
      split at x
      · cases x; cases h3
      · cases x
theorem Pers.ro {b : Nat} {o : Obj} : Pers (Go.Proofs.YtgmapenlgammfaaGreatDoor.ro b o) := by
  intro h e
  have e' : h b = some (.ro o) := e
  show roPart h b = _
  unfold roPart
  rw [e']
def toRo (h : Frag) : Frag := fun i => (h i).map fun c => .ro c.obj
def Frz (A B : HProp) : Prop := ∀ h, A h → B (toRo h)
theorem Frz.star {w0 w : World} {h : Frag} {A B : HProp} {M : List HProp} (f : Frz A B) (s : Sat w0 w h) (t : star (A :: M) h) : ∃ h', star (B :: M) h' ∧ Sat w0 w h' := by
  obtain ⟨h1, h2, l1, l2, d, a, m⟩ := t
  refine ⟨fun i => (toRo h1 i).or (h2 i), ⟨toRo h1, h2, ?_, ?_, ?_, f h1 a, m⟩, ?_⟩
  · intro i c e; simp [e]
  · intro i c e
    cases x : h1 i with
    | none => simp [toRo, x, e]
    | some y =>
      have hy := l1 i y x
      have hc := l2 i c e
      rw [hy] at hc
      injection hc with hc
      subst hc
      cases y with
      | ro o => simp [toRo, x, Cel.obj]
      | rw o => have := (d i o).1 x; rw [e] at this; cases this
  · intro i o
    constructor
    · intro e
      unfold toRo at e
      cases x : h1 i with
      | none => rw [x] at e; cases e
      | some y => rw [x] at e; simp at e
    · intro e
      have := (d i o).2 e
      simp [toRo, this]
  · refine ⟨s.os, s.tape, s.output, s.size, s.base, ?_⟩
    intro i c e
    cases x : h1 i with
    | none =>
      simp [toRo, x] at e
      exact s.own i c (l2 i c e)
    | some y =>
      simp [toRo, x] at e
      subst e
      exact s.own i y (l1 i y x)
section
variable {P : Program} {w0 : World} {n : Nat} {ops : Array Oper} {Q : Exit → Act → World → Prop} {L : Env} {M : List HProp} {A B : HProp}
theorem CJ.frz {c : Code} {M' : List HProp} (g : Takes M [A] M') (f : Frz A B) (k : CJ P w0 n c Q L (B :: M')) : CJ P w0 n c Q L M := fun a w h s m t => by
  obtain ⟨h', m', t'⟩ := f.star t (g h m)
  exact k a w h' s m' t'
theorem RL.frz {l : List Oper} {M' : List HProp} (g : Takes M [A] M') (f : Frz A B) (k : RL P w0 n ops Q l L (B :: M')) : RL P w0 n ops Q l L M := fun a w h s m t => by
  obtain ⟨h', m', t'⟩ := f.star t (g h m)
  exact k a w h' s m' t'
theorem XJ.frz {e : Exit} {M' : List HProp} (g : Takes M [A] M') (f : Frz A B) (k : XJ w0 n e Q L (B :: M')) : XJ w0 n e Q L M := fun a w h s m t => by
  obtain ⟨h', m', t'⟩ := f.star t (g h m)
  exact k a w h' s m' t'
end
theorem Frz.mp {κ : Type} [DecidableEq κ] {enc : κ → Value} {r : Nat} {m : κ → Option Value} : Frz (Go.Proofs.YtgmapenlgammfaaGreatDoor.mp enc r m) (Go.Proofs.YtgmapenlgammfaaGreatDoor.rmp enc r m) := by
  rintro h ⟨es, clk, e, mi⟩
  exact ⟨es, clk, by simp [toRo, e, Cel.obj], mi⟩
theorem Pers.rmp {κ : Type} [DecidableEq κ] {enc : κ → Value} {r : Nat} {m : κ → Option Value} : Pers (Go.Proofs.YtgmapenlgammfaaGreatDoor.rmp enc r m) := by
  rintro h ⟨es, clk, e, mi⟩
  exact ⟨es, clk, by unfold roPart; rw [e], mi⟩
theorem Frz.pt {b : Nat} {o : Obj} : Frz (Go.Proofs.YtgmapenlgammfaaGreatDoor.pt b o) (Go.Proofs.YtgmapenlgammfaaGreatDoor.ro b o) := fun h e => by
  have e' : h b = some (.rw o) := e
  show toRo h b = _
  simp [toRo, e', Cel.obj]

/-! ### rows -/
def row (E sz : Nat) (v : Value) (n : Nat) (xs : List Value) : HProp := fun h =>
  xs.length = n * sz ∧ (∀ u ∈ xs, u.oneCell' = true) ∧ ((v = .slice none 0 0 ∧ n = 0) ∨ ∃ g cap cur, v = .slice (some ⟨g, 0, none⟩) n cap ∧ h g = some (.rw (.cells (List.toArray cur) E (0, 0))) ∧ n ≤ cap ∧ cap ≤ maxLen ∧ cur.length = cap * sz ∧ cur.take (n * sz) = xs)
def rrow (E sz : Nat) (v : Value) (n : Nat) (xs : List Value) : HProp := fun h =>
  xs.length = n * sz ∧ (∀ u ∈ xs, u.oneCell' = true) ∧ ((v = .slice none 0 0 ∧ n = 0) ∨ ∃ g cap cur, v = .slice (some ⟨g, 0, none⟩) n cap ∧ h g = some (.ro (.cells (List.toArray cur) E (0, 0))) ∧ n ≤ cap ∧ cap ≤ maxLen ∧ cur.length = cap * sz ∧ cur.take (n * sz) = xs)
theorem Frz.row {E sz : Nat} {v : Value} {n : Nat} {xs : List Value} : Frz (Go.Proofs.YtgmapenlgammfaaGreatDoor.row E sz v n xs) (Go.Proofs.YtgmapenlgammfaaGreatDoor.rrow E sz v n xs) := by
  rintro h ⟨h1, h2, h3⟩
  refine ⟨h1, h2, h3.imp id ?_⟩
  rintro ⟨g, cap, cur, e1, e2, e3⟩
  exact ⟨g, cap, cur, e1, by simp [toRo, e2, Cel.obj], e3⟩
theorem Pers.rrow {E sz : Nat} {v : Value} {n : Nat} {xs : List Value} : Pers (Go.Proofs.YtgmapenlgammfaaGreatDoor.rrow E sz v n xs) := by
  rintro h ⟨h1, h2, h3⟩
  refine ⟨h1, h2, h3.imp id ?_⟩
  rintro ⟨g, cap, cur, e1, e2, e3⟩
  exact ⟨g, cap, cur, e1, by unfold roPart; rw [e2], e3⟩
theorem row_nil {M : List HProp} (E sz : Nat) : Gives M (row E sz (.slice none 0 0) 0 [] :: M) := fun h m =>
  ⟨fun _ => none, h, (fun _ _ e => by cases e), Fle.refl h, fun i o => ⟨(fun e => by cases e), fun _ => rfl⟩, ⟨by simp, by simp, .inl ⟨rfl, rfl⟩⟩, m⟩
theorem rrow_nil {M : List HProp} (E sz : Nat) : Gives M (rrow E sz (.slice none 0 0) 0 [] :: M) := fun h m =>
  ⟨fun _ => none, h, (fun _ _ e => by cases e), Fle.refl h, fun i o => ⟨(fun e => by cases e), fun _ => rfl⟩, ⟨by simp, by simp, .inl ⟨rfl, rfl⟩⟩, m⟩
theorem row_of_cel {E sz b n : Nat} {cs : List Value} (hl : cs.length = n * sz) (h1 : ∀ u ∈ cs, u.oneCell' = true) (hn : n ≤ maxLen) (M : List HProp) : Gives (cel b E cs :: M) (row E sz (.slice (some ⟨b, 0, none⟩) n n) n cs :: M) := by
  rintro h ⟨h1', h2, l1, l2, d, a, m⟩
  exact ⟨h1', h2, l1, l2, d, ⟨hl, h1, .inr ⟨b, n, cs, rfl, a, Nat.le_refl _, hn, hl, by rw [← hl, List.take_length]⟩⟩, m⟩
theorem cel_of_row {E sz b n : Nat} {cs : List Value} {M : List HProp} {h : Frag} (s : star (row E sz (.slice (some ⟨b, 0, none⟩) n n) n cs :: M) h) : star (cel b E cs :: M) h := by
  obtain ⟨h1, h2, l1, l2, d, ⟨e1, e2, e3⟩, m⟩ := s
  rcases e3 with ⟨e, _⟩ | ⟨g, cap, cur, e, a, _, _, hc, ht⟩
  · cases e
  · simp only [Value.slice.injEq, Option.some.injEq, Addr.mk.injEq, and_true, true_and] at e
    obtain ⟨rfl, rfl⟩ := e
    rw [← hc, List.take_length] at ht
    subst ht
    exact ⟨h1, h2, l1, l2, d, a, m⟩
/-- The shape of a row's value. -/
theorem row_shape {E sz : Nat} {v : Value} {n : Nat} {xs : List Value} {M : List HProp} {h : Frag} (s : star (row E sz v n xs :: M) h) : ∃ A c, v = .slice A n c := by
  obtain ⟨h1, h2, l1, l2, d, ⟨e1, e2, e3⟩, m⟩ := s
  rcases e3 with ⟨e, e'⟩ | ⟨g, cap, cur, e, _⟩
  · subst e'; exact ⟨_, _, e⟩
  · exact ⟨_, _, e⟩
theorem row_has {w0 : World} {E sz b o n c : Nat} {xs : List Value} {M M' : List HProp} (t : Takes M [row E sz (.slice (some ⟨b, o, none⟩) n c) n xs] M') : HasAt w0 M b o xs := by
  intro w h m s
  obtain ⟨h1, h2, l1, l2, d, ⟨e1, e2, e3⟩, _⟩ := t h m
  rcases e3 with ⟨e, _⟩ | ⟨g, cap, cur, e, a, _, _, hc, ht⟩
  · cases e
  · simp only [Value.slice.injEq, Option.some.injEq, Addr.mk.injEq, and_true, true_and] at e
    obtain ⟨⟨rfl, rfl⟩, rfl⟩ := e
    intro j v hv
    have hb := (s.own _ _ (l1 _ _ a)).2
    rw [← ht] at hv
    have hj : j < n * sz := by
      rcases Nat.lt_or_ge j (n * sz) with x | x
      · exact x
      · rw [List.getElem?_take_eq_none x] at hv; cases hv
    rw [List.getElem?_take_of_lt hj] at hv
    exact HasAt.heap (o := 0) (vs := cur) hb atAll j v hv
theorem rrow_has {w0 : World} {E sz b o n c : Nat} {xs : List Value} {M M' : List HProp} (t : Takes M [rrow E sz (.slice (some ⟨b, o, none⟩) n c) n xs] M') : HasAt w0 M b o xs := by
  intro w h m s
  obtain ⟨h1, h2, l1, l2, d, ⟨e1, e2, e3⟩, _⟩ := t h m
  rcases e3 with ⟨e, _⟩ | ⟨g, cap, cur, e, a, _, _, hc, ht⟩
  · cases e
  · simp only [Value.slice.injEq, Option.some.injEq, Addr.mk.injEq, and_true, true_and] at e
    obtain ⟨⟨rfl, rfl⟩, rfl⟩ := e
    intro j v hv
    have hb := (s.own _ _ (l1 _ _ a)).2
    rw [← ht] at hv
    have hj : j < n * sz := by
      rcases Nat.lt_or_ge j (n * sz) with x | x
      · exact x
      · rw [List.getElem?_take_eq_none x] at hv; cases hv
    rw [List.getElem?_take_of_lt hj] at hv
    exact HasAt.heap (o := 0) (vs := cur) hb atAll j v hv

theorem fresh_row {P : Program} {w0 w : World} {h : Frag} {M : List HProp} {E sz n m old : Nat} {z : Value} {xs news : List Value} (s : Sat w0 w h) (t : star M h) (hx : xs.length = n * sz) (hn : news.length = m * sz) (h1 : ∀ u ∈ xs ++ news, u.oneCell' = true) (hz : z.cells.size = sz) (h63 : n + m ≤ maxLen) :
    ∃ h', star (row E sz (.slice (some ⟨w.heap.size, 0, none⟩) (n + m) (grownCap w (n + m) old E)) (n + m) (xs ++ news) :: M) h' ∧ Sat w0 (w.drew.alloc (.cells (xs.toArray ++ news.toArray ++ Builtin.zeroCells z.cells (grownCap w (n + m) old E - (n + m))) E)) h' := by
  have hs : Sat w0 w.drew h := s.drawn _
  obtain ⟨h', ⟨h3, h4, l3, l4, d, a, m4⟩, s'⟩ := hs.push t (.cells (xs.toArray ++ news.toArray ++ Builtin.zeroCells z.cells (grownCap w (n + m) old E - (n + m))) E (0, 0))
  have hge := grownCap_ge w (n + m) old E
  refine ⟨h', ⟨h3, h4, l3, l4, d, ⟨?_, h1, .inr ⟨w.heap.size, _, xs ++ news ++ (Builtin.zeroCells z.cells (grownCap w (n + m) old E - (n + m))).toList, rfl, ?_, hge, grownCap_le_maxLen w _ _ _ h63, ?_, ?_⟩⟩, m4⟩, s'⟩
  · rw [List.length_append, hx, hn, Nat.add_mul]
  · have e : (xs ++ news ++ (Builtin.zeroCells z.cells (grownCap w (n + m) old E - (n + m))).toList).toArray = xs.toArray ++ news.toArray ++ Builtin.zeroCells z.cells (grownCap w (n + m) old E - (n + m)) := by
      apply Array.ext'
      simp
    rw [e]
    exact a
  · simp only [List.length_append, Array.length_toList, size_zeroCells, hz, hx, hn, ← Nat.add_mul]
    congr 1
    omega
  · rw [show (n + m) * sz = (xs ++ news).length by rw [List.length_append, hx, hn, Nat.add_mul]]
    exact List.take_left

section
variable {P : Program} {w0 : World} {L : Env} {M : List HProp} {d : Option Tmp} {T : TypeId} {p : String} {af : Array Edge} {g : Option (Nat × Bool)}
/-- What is appended: nothing, or cells that stand somewhere. -/
def Src (w0 : World) (M : List HProp) (sz : Nat) (x : Value) (m : Nat) (news : List Value) : Prop :=
  news.length = m * sz ∧ (∀ u ∈ news, u.oneCell' = true) ∧ ((m = 0 ∧ ∃ A c, x = .slice A 0 c) ∨ ∃ b o c, x = .slice (some ⟨b, o, none⟩) m c ∧ HasAt w0 M b o news)
theorem row_src {E sz : Nat} {v : Value} {n : Nat} {xs : List Value} {M' : List HProp} (t : Takes M [row E sz v n xs] M') {w : World} {h : Frag} (m : star M h) : Src w0 M sz v n xs := by
  obtain ⟨h1, h2, l1, l2, d, ⟨e1, e2, e3⟩, _⟩ := t h m
  refine ⟨e1, e2, ?_⟩
  rcases e3 with ⟨e, e'⟩ | ⟨g, cap, cur, e, _⟩
  · subst e'; exact .inl ⟨rfl, _, _, e⟩
  · subst e; exact .inr ⟨_, _, _, rfl, row_has t⟩
theorem rrow_src {E sz : Nat} {v : Value} {n : Nat} {xs : List Value} {M' : List HProp} (t : Takes M [rrow E sz v n xs] M') {h : Frag} (m : star M h) : Src w0 M sz v n xs := by
  obtain ⟨h1, h2, l1, l2, d, ⟨e1, e2, e3⟩, _⟩ := t h m
  refine ⟨e1, e2, ?_⟩
  rcases e3 with ⟨e, e'⟩ | ⟨g, cap, cur, e, _⟩
  · subst e'; exact .inl ⟨rfl, _, _, e⟩
  · subst e; exact .inr ⟨_, _, _, rfl, rrow_has t⟩
theorem run_append {t : TypeId} {E sz bytes : Nat} {zc : List Value} [k : AppT P t E sz bytes zc] {w : World} {h : Frag} {v x : Value} {n m : Nat} {xs news : List Value} {M' : List HProp} (sa : Sat w0 w h) (mm : star M h) (hm : Takes M [row E sz v n xs] M') (hx : Src w0 M sz x m news) (h63 : n + m ≤ maxLen) (hb : (n + m) * bytes ≤ 140737488355328) (ty : TypeId) :
    ∃ v' w' h', (Builtin.append_ #[t, t] ty #[v, x]).run P w = .ok v' w' ∧ (∃ A c, v' = .slice A (n + m) c) ∧ star (row E sz v' (n + m) (xs ++ news) :: M') h' ∧ Sat w0 w' h' := by
  obtain ⟨i, z, ht, hi, hz, hsz, hby, hzc, hzl, h0⟩ := k.ex
  subst hsz hby
  have hzs : z.cells.size = i.size := by rw [hzc]; simpa using hzl
  have tk := hm h mm
  obtain ⟨hl, h1, hcase⟩ := hx
  have tk' := tk
  obtain ⟨f1, f2, l1, l2, dd, ⟨e1, e2, e3⟩, m2⟩ := tk'
  have hall : ∀ u ∈ xs ++ news, u.oneCell' = true := by
    intro u hu
    rcases List.mem_append.1 hu with hu | hu
    · exact e2 u hu
    · exact h1 u hu
  rcases hcase with ⟨rfl, A', c', rfl⟩ | ⟨b, o, c, rfl, hhas⟩
  · have hn : news = [] := List.eq_nil_of_length_eq_zero (by simpa using hl)
    subst hn
    refine ⟨v, w, h, ?_, ?_, by simpa using tk, sa⟩
    · rcases e3 with ⟨rfl, rfl⟩ | ⟨g', cap, cur, rfl, _, hnc, _⟩
      · cases A' <;> simp [Builtin.append_, run_underlying ht, sizeOf, typeInfo, hi, Builtin.lenOf, Builtin.firstCells, loadCells, loadCellsFrom]
      · cases A' <;> simp [Builtin.append_, run_underlying ht, sizeOf, typeInfo, hi, Builtin.lenOf, Builtin.firstCells, hnc, storeCells, loadCells, loadCellsFrom]
    · exact row_shape tk
  · have hcells : ∀ j u, news[j]? = some u → w.cell? ((⟨b, o, none⟩ : Addr).add j) = some u := by
      intro j u hu
      rw [add_plain']
      exact hhas w h mm sa j u hu
    rcases e3 with ⟨rfl, rfl⟩ | ⟨g', cap, cur, rfl, ha, hnc, hcm, hcs, htake⟩
    · have hxs : xs = [] := List.eq_nil_of_length_eq_zero (by simpa using e1)
      subst hxs
      by_cases hm0 : m = 0
      · subst hm0
        have hn : news = [] := List.eq_nil_of_length_eq_zero (by simpa using hl)
        subst hn
        refine ⟨_, w, h, ?_, ⟨_, _, rfl⟩, by simpa using tk, sa⟩
        simp [Builtin.append_, run_underlying ht, sizeOf, typeInfo, hi, Builtin.lenOf, Builtin.firstCells, loadCells, loadCellsFrom]
      · have hr := run_append_nil (P := P) w t ty E i z ht hi hz ⟨b, o, none⟩ m c news hl hcells (by omega) (by simp only [maxLen] at h63; omega) (by have hb' := hb; simp only [Nat.zero_add] at hb'; omega)
        obtain ⟨h', t', s'⟩ := fresh_row (P := P) (E := E) (n := 0) (m := m) (old := 0) (z := z) (xs := []) (news := news) sa (Takes.gives hm (Gives.drop (Gives.refl M')) h mm) (by simp) hl (by simpa using h1) hzs (by omega)
        simp only [Nat.zero_add, List.nil_append] at t' s' ⊢
        exact ⟨_, _, h', hr, ⟨_, _, rfl⟩, t', by simpa using s'⟩
    · have hgb := (sa.own _ _ (l1 _ _ ha)).2
      by_cases hroom : n + m ≤ cap
      · have hfit : n * i.size + news.length ≤ cur.toArray.size := by
          rw [hl, ← Nat.add_mul]
          simp only [List.size_toArray]
          rw [hcs]
          exact Nat.mul_le_mul_right _ hroom
        have hr := run_append_room (P := P) w t ty E i ht hi g' n cap cur.toArray hgb ⟨b, o, none⟩ m c news hl hcells h1 hroom hfit
        have tc : star (cel g' E cur :: M') h := ⟨f1, f2, l1, l2, dd, ha, m2⟩
        obtain ⟨h', ⟨f3, f4, l3, l4, d3, a3, m4⟩, s'⟩ := sa.setRow (cs' := cur.take (n * i.size) ++ news ++ cur.drop (n * i.size + news.length)) tc
        refine ⟨_, _, h', hr, ⟨_, _, rfl⟩, ⟨f3, f4, l3, l4, d3, ⟨?_, hall, .inr ⟨g', cap, _, rfl, a3, hroom, hcm, ?_, ?_⟩⟩, m4⟩, s'⟩
        · rw [List.length_append, e1, hl, Nat.add_mul]
        · simp only [List.length_append, List.length_take, List.length_drop]
          have : n * i.size + news.length ≤ cur.length := by simpa using hfit
          omega
        · rw [htake, show (n + m) * i.size = (xs ++ news).length by rw [List.length_append, e1, hl, Nat.add_mul]]
          exact List.take_left
      · have holds : ∀ j u, xs[j]? = some u → w.cell? ((⟨g', 0, none⟩ : Addr).add j) = some u := by
          intro j u hu
          rw [add_plain']
          exact row_has (w0 := w0) hm w h mm sa j u hu
        have hr := run_append_grow (P := P) w t ty E i z ht hi hz ⟨g', 0, none⟩ n cap xs e1 holds ⟨b, o, none⟩ m c news hl hcells (by omega) (by simp only [maxLen] at h63; omega) (growslice_fits (by omega) hb)
        obtain ⟨h', t', s'⟩ := fresh_row (P := P) (E := E) (n := n) (m := m) (old := cap) (z := z) (xs := xs) (news := news) sa (Takes.gives hm (Gives.drop (Gives.refl M')) h mm) e1 hl hall hzs h63
        exact ⟨_, _, h', hr, ⟨_, _, rfl⟩, t', s'⟩
/-- Append to a slice of one's own. -/
theorem OpS.append {t : TypeId} {s x : Operand} {E sz bytes : Nat} {zc : List Value} [k : AppT P t E sz bytes zc] {v u : Value} {n m : Nat} {xs news : List Value} {M' : List HProp} (hs : Ev L s v) (hx : Ev L x u) (hm : Takes M [row E sz v n xs] M') (hn : ∀ h, star M h → Src w0 M sz u m news) (h63 : n + m ≤ maxLen) (hb : (n + m) * bytes ≤ 140737488355328) :
    OpS P w0 L M ⟨d, .call { callee := .builtin .append, args := #[s, x], argTypes := #[t, t] }, T, p, af, g⟩ (fun v' N => (∃ A c, v' = .slice A (n + m) c) ∧ N = row E sz v' (n + m) (xs ++ news) :: M') noP := fun q a w h st mm sa => by
  obtain ⟨v', w', h', hr, hA, t', s'⟩ := run_append (P := P) (t := t) sa mm hm (hn h mm) h63 hb T
  simp only [execOp, resolve, invoke, builtin, hs q a st, hx q a st, Sem.run_bind, Sem.run_pure, Result.andThen_ok, List.map_toArray, List.map_cons, List.map_nil, hr, ResS]
  exact ⟨_, h', ⟨hA, rfl⟩, t', s'⟩
/-- Append to a slice without room: a new one. -/
theorem OpS.appendNew {t : TypeId} {s x : Operand} {E sz bytes : Nat} {zc : List Value} [k : AppT P t E sz bytes zc] {v u : Value} {n m : Nat} {xs news : List Value} (hs : Ev L s v) (hx : Ev L x u) (hv : ∀ h, star M h → Src w0 M sz v n xs ∧ ∀ A l c, v = .slice A l c → c = l) (hn : ∀ h, star M h → Src w0 M sz u m news) (h0 : 0 < m) (h63 : n + m ≤ maxLen) (hb : (n + m) * bytes ≤ 140737488355328) :
    OpS P w0 L M ⟨d, .call { callee := .builtin .append, args := #[s, x], argTypes := #[t, t] }, T, p, af, g⟩ (fun v' N => (∃ A c, v' = .slice A (n + m) c) ∧ N = row E sz v' (n + m) (xs ++ news) :: M) noP := fun q a w h st mm sa => by
  obtain ⟨i, z, ht, hi, hz, hsz, hby, hzc, hzl, _⟩ := k.ex
  subst hsz hby
  have hzs : z.cells.size = i.size := by rw [hzc]; simpa using hzl
  obtain ⟨⟨e1, e2, e3⟩, hcap⟩ := hv h mm
  obtain ⟨hl, h1, hcase⟩ := hn h mm
  have hall : ∀ u ∈ xs ++ news, u.oneCell' = true := by
    intro u hu
    rcases List.mem_append.1 hu with hu | hu
    · exact e2 u hu
    · exact h1 u hu
  rcases hcase with ⟨rfl, _⟩ | ⟨b, o, c, rfl, hhas⟩
  · omega
  have hcells : ∀ j u, news[j]? = some u → w.cell? ((⟨b, o, none⟩ : Addr).add j) = some u := by
    intro j u hu
    rw [add_plain']
    exact hhas w h mm sa j u hu
  have key : ∃ v' w' h', (Builtin.append_ #[t, t] T #[v, .slice (some ⟨b, o, none⟩) m c]).run P w = .ok v' w' ∧ (∃ A c, v' = .slice A (n + m) c) ∧ star (row E i.size v' (n + m) (xs ++ news) :: M) h' ∧ Sat w0 w' h' := by
    rcases e3 with ⟨rfl, A', c', rfl⟩ | ⟨b', o', c', rfl, hhas'⟩
    · have hxs : xs = [] := List.eq_nil_of_length_eq_zero (by simpa using e1)
      subst hxs
      have hc0 := hcap _ _ _ rfl
      subst hc0
      cases A' with
      | some ad =>
        have hr := run_append_grow (P := P) w t T E i z ht hi hz ad 0 0 [] (by simp) (by simp) ⟨b, o, none⟩ m c news hl hcells (by omega) (by simp only [maxLen] at h63; omega) (growslice_fits (by omega) hb)
        obtain ⟨h', t', s'⟩ := fresh_row (P := P) (E := E) (n := 0) (m := m) (old := 0) (z := z) (xs := []) (news := news) sa mm (by simp) hl (by simpa using h1) hzs (by omega)
        exact ⟨_, _, h', hr, ⟨_, _, rfl⟩, t', s'⟩
      | none =>
      have hr := run_append_nil (P := P) w t T E i z ht hi hz ⟨b, o, none⟩ m c news hl hcells (by omega) (by simp only [maxLen] at h63; omega) (by have hb' := hb; simp only [Nat.zero_add] at hb'; omega)
      obtain ⟨h', t', s'⟩ := fresh_row (P := P) (E := E) (n := 0) (m := m) (old := 0) (z := z) (xs := []) (news := news) sa mm (by simp) hl (by simpa using h1) hzs (by omega)
      simp only [Nat.zero_add, List.nil_append] at t' s' ⊢
      exact ⟨_, _, h', hr, ⟨_, _, rfl⟩, t', by simpa using s'⟩
    · have hc := hcap _ _ _ rfl
      subst hc
      have holds : ∀ j u, xs[j]? = some u → w.cell? ((⟨b', o', none⟩ : Addr).add j) = some u := by
        intro j u hu
        rw [add_plain']
        exact hhas' w h mm sa j u hu
      have hr := run_append_grow (P := P) w t T E i z ht hi hz ⟨b', o', none⟩ c' c' xs e1 holds ⟨b, o, none⟩ m c news hl hcells (by omega) (by simp only [maxLen] at h63; omega) (growslice_fits (by omega) hb)
      obtain ⟨h', t', s'⟩ := fresh_row (P := P) (E := E) (n := c') (m := m) (old := c') (z := z) (xs := xs) (news := news) sa mm e1 hl hall hzs h63
      exact ⟨_, _, h', hr, ⟨_, _, rfl⟩, t', s'⟩
  obtain ⟨v', w', h', hr, hA, t', s'⟩ := key
  simp only [execOp, resolve, invoke, builtin, hs q a st, hx q a st, Sem.run_bind, Sem.run_pure, Result.andThen_ok, List.map_toArray, List.map_cons, List.map_nil, hr, ResS]
  exact ⟨_, h', ⟨hA, rfl⟩, t', s'⟩
end

/-! sets as maps -/
def setM (s : ByteArray → Bool) : ByteArray → Option Value := fun k => if s k then some (.bool true) else none
theorem setM_upd (s : ByteArray → Bool) (k : ByteArray) : upd (setM s) k (.bool true) = setM (fun j => decide (j = k) || s j) := by
  funext j
  unfold upd setM
  by_cases h : j = k
  · simp [h]
  · simp [h]
theorem setM_none : (fun _ => none : ByteArray → Option Value) = setM (fun _ => false) := by funext j; simp [setM]
section
variable {P : Program} {w0 : World} {L : Env} {M : List HProp} {d : Option Tmp} {T : TypeId} {p : String} {af : Array Edge} {g : Option (Nat × Bool)}
theorem OpP.lookupSet {t : TypeId} {K E : Nat} {x i : Operand} [q : MapT P t K E] [k : KeyT P K ByteArray Value.string] [zz : ZeroT P E (.bool false)] {r : Nat} {s : ByteArray → Bool} {y : ByteArray} (hx : Ev L x (.map (some r))) (hi : Ev L i (.string y)) (hm : HasMap w0 M Value.string r (setM s)) :
    OpP P w0 L M ⟨d, .lookup t x i false, T, p, af, g⟩ (.bool (s y)) := by
  have := OpP.lookup (P := P) (t := t) (z := .bool false) (d := d) (T := T) (p := p) (af := af) (g := g) hx hi hm
  have e : (setM s y).getD (.bool false) = .bool (s y) := by unfold setM; cases s y <;> rfl
  rw [e] at this
  exact this
theorem OpP.eqNilMap {t u : TypeId} {K E : Nat} {x y : Operand} [q : MapT P t K E] {r : Nat} (hx : Ev L x (.map (some r))) (hy : Ev L y (.map none)) : OpP P w0 L M ⟨d, .binOp .eql t x y u, T, p, af, g⟩ (.bool false) := fun n a w h s _ _ => by
  have e1 : (eqGuard .eql t x y (.map (some r)) (.map none)).run P w = .ok () w := by unfold eqGuard; rfl
  have e2 : (Op.equal t (.map (some r)) (.map none)).run P w = .ok false w := by
    unfold Op.equal
    rw [show Op.maxDepth = 9999 + 1 from rfl]
    unfold Op.equalIn
    simp only [Sem.run_bind, run_und q.und, Result.andThen_ok]
    rfl
  simp only [execOp, hx n a s, hy n a s, Sem.run_bind, e1, Result.andThen_ok, binOp, e2, Sem.run_pure]
theorem OpP.eqNilSlice {t u : TypeId} {E sz : Nat} {x y : Operand} [q : SliceT P t E sz] {A : Option Addr} {l c l2 c2 : Nat} (hx : Ev L x (.slice A l c)) (hy : Ev L y (.slice none l2 c2)) : OpP P w0 L M ⟨d, .binOp .eql t x y u, T, p, af, g⟩ (.bool A.isNone) := fun n a w h s _ _ => by
  have e1 : (eqGuard .eql t x y (.slice A l c) (.slice none l2 c2)).run P w = .ok () w := by unfold eqGuard; rfl
  have e2 : (Op.equal t (.slice A l c) (.slice none l2 c2)).run P w = .ok A.isNone w := by
    unfold Op.equal
    rw [show Op.maxDepth = 9999 + 1 from rfl]
    unfold Op.equalIn
    simp only [Sem.run_bind, run_und q.und, Result.andThen_ok]
    cases A <;> rfl
  simp only [execOp, hx n a s, hy n a s, Sem.run_bind, e1, Result.andThen_ok, binOp, e2, Sem.run_pure]
class ConcT (P : Program) (T : TypeId) : Prop where
  und : ∃ d, P.underlying T = some d ∧ ∀ ms, d ≠ .interface ms
theorem OpP.typeAssert {t t' : TypeId} {x : Operand} {v : Value} [q : ConcT P t] (hx : Ev L x (.iface t v)) : OpP P w0 L M ⟨d, .typeAssert x t' t false, T, p, af, g⟩ v := fun n a w h s _ _ => by
  obtain ⟨dd, h1, h2⟩ := q.und
  simp only [execOp, hx n a s, Instr.typeAssert, Sem.run_bind, run_und h1, Result.andThen_ok]
  cases dd <;> first | exact absurd rfl (h2 _) | simp
theorem OpP.clip {t : TypeId} {x y z : Operand} {E sz : Nat} [q : SliceT P t E sz] {A : Option Addr} {l c : Nat} (hx : Ev L x (.slice A l c)) (hy : Ev L y (.int .i64 (l : Int))) (hz : Ev L z (.int .i64 (l : Int))) (hc : l ≤ c) : OpP P w0 L M ⟨d, .slice t x none (some y) (some z), T, p, af, g⟩ (.slice A l l) := fun n a w h s _ _ => by
  have h0 : ∀ ad : Addr, ad.add 0 = ad := fun ad => by unfold Addr.add; split <;> simp_all
  have h1 : (l : Int) ≤ (c : Int) := by omega
  simp [execOp, hx n a s, hy n a s, hz n a s, Instr.sliceAt, Instr.slice, Instr.sliceBounds, Instr.sliceBound, run_und q.und, asIntOf, h1, q.sz, h0]
  omega
/-- The library's copy of a map. -/
class CloneT (P : Program) (k : FuncId) : Prop where
  run : ∀ t r es clk w, w.heap[r]? = some (.map es clk) → (callFunc k #[.iface t (.map (some r))]).run P w = .ok (.value (.iface t (.map (some w.heap.size)))) { w with heap := w.heap.push (.map es clk) }
theorem CloneT.of {P : Program} {k : FuncId} {fn : Func} (h1 : P.funcs[k]? = some fn) (h2 : (fn.name == "runtime.NumGoroutine") = false) (h3 : fn.body.isNone = true) (h4 : Extern.findNext fn = none) (h5 : Extern.find fn = some Extern.MapsClone.clone) : CloneT P k := ⟨fun t r es clk w hh => by
  have hg : (getObj r).run P w = .ok (.map es clk) w := by simp [getObj, Sem.run, hh]
  have hc : (Extern.MapsClone.clone #[.iface t (.map (some r))]).run P w = .ok (.iface t (.map (some w.heap.size))) { w with heap := w.heap.push (.map es clk) } := by
    have e : Extern.MapsClone.clone #[.iface t (.map (some r))] = (do
      let o ← getObj r
      match o with
      | .map entries clock => do pure (.iface t (.map (some (← newObj (.map entries clock)))))
      | _ => stuck "maps.clone: a map expected") := rfl
    rw [e, Sem.run_bind, hg]
    simp only [Result.andThen_ok, Sem.run_bind, newObj, Sem.run, Sem.run_pure, Sem.run_pure']
  simp only [callFunc, program, Sem.run_bind, Sem.run, Result.andThen_ok, h1, h2, h3, h4, h5, mark, if_true, if_false, Bool.false_eq_true, hc, Sem.run_pure, Sem.run_pure']⟩
theorem OpS.clone {f x : Operand} {k : FuncId} {t : TypeId} {r : Nat} {ts : Array TypeId} {m : ByteArray → Option Value} [c : CloneT P k] (hf : Ev L f (.func (.func k) #[] #[])) (hx : Ev L x (.iface t (.map (some r)))) (hm : HasMap w0 M Value.string r m) :
    OpS P w0 L M ⟨d, .call { callee := .value f, args := #[x], argTypes := ts }, T, p, af, g⟩ (fun v N => ∃ r', v = .iface t (.map (some r')) ∧ N = mp Value.string r' m :: M) noP := fun n a w h s mm sa => by
  obtain ⟨es, clk, hh, mi⟩ := hm w h mm sa
  have e : (execOp a.eval ⟨d, .call { callee := .value f, args := #[x], argTypes := ts }, T, p, af, g⟩).run P w = .ok (.value (.iface t (.map (some w.heap.size)))) { w with heap := w.heap.push (.map es clk) } := by
    simp [execOp, resolve, Deferred.ofValue, hf n a s, hx n a s, invoke, c.run t r es clk w hh]
  obtain ⟨h', ⟨h1, h2, l1, l2, dd, ha, m2⟩, s'⟩ := sa.push mm (.map es clk)
  rw [e]
  exact ⟨_, h', ⟨_, rfl, rfl⟩, ⟨h1, h2, l1, l2, dd, ⟨_, _, ha, mi⟩, m2⟩, s'⟩
end
attribute [irreducible] row rrow
end Go.Proofs.YtgmapenlgammfaaGreatDoor

/- The walk's words: theorems whose side conditions are found by the scripts that stand in them. -/
namespace Go.Proofs.YtgmapenlgammfaaGreatDoor
open Go
section
variable {P : Program} {w0 : World} {n : Nat} {ops : Array Oper} {Q : Exit → Act → World → Prop} {L : Env} {M : List HProp}
theorem kEv {x : Operand} {v : Value} (h : Ev L x v := by first | exact Ev.tmp rfl | exact Ev.const | exact Ev.func) : Ev L x v := h
theorem kEvl {xs : List Operand} {vs : List Value} (h : EvL L xs vs := by (repeat (first | exact EvL.nil | (apply EvL.cons; exact kEv)))) : EvL L xs vs := h
theorem kTake {X M' : List HProp} (h : Takes M X M' := by (repeat (first | exact Takes.here _ _ | apply Takes.there))) : Takes M X M' := h
theorem kTakes {X M' : List HProp} (h : Takes M X M' := by (repeat (first | exact Takes.nil _ | (apply Takes.cons; exact kTake)))) : Takes M X M' := h
theorem kGives {M' : List HProp} (h : Gives M M' := by (repeat (first | exact Gives.refl _ | exact Gives.nil _ | (apply Gives.cons; exact kTake) | apply Gives.drop))) : Gives M M' := h
theorem kHas {b o : Nat} {vs : List Value} (h : HasAt w0 M b o vs := by (first | (apply HasAt.base; assumption) | (apply HasAt.pt; exact kTake; exact at1 rfl) | (apply HasAt.ro; exact kTake; exact at1 rfl))) : HasAt w0 M b o vs := h
theorem kHasA {b o : Nat} {vs : List Value} (h : HasAt w0 M b o vs := by (first | (apply HasAt.base; assumption) | (apply HasAt.pt; exact kTake; exact atAll) | (apply HasAt.ro; exact kTake; exact atAll))) : HasAt w0 M b o vs := h
theorem kHasm {κ : Type} [DecidableEq κ] {enc : κ → Value} {r : Nat} {m : κ → Option Value} (h : HasMap w0 M enc r m := by (first | (apply MapB.has; assumption) | exact HasMap.rmp (Takes.here _ _) | exact HasMap.mp (Takes.here _ _) | exact HasMap.rmp (Takes.there (Takes.here _ _)) | exact HasMap.mp (Takes.there (Takes.here _ _)) | exact HasMap.rmp (Takes.there (Takes.there (Takes.here _ _))) | exact HasMap.mp (Takes.there (Takes.there (Takes.here _ _))) | exact HasMap.rmp (Takes.there (Takes.there (Takes.there (Takes.here _ _)))) | exact HasMap.mp (Takes.there (Takes.there (Takes.there (Takes.here _ _)))) | exact HasMap.rmp (Takes.there (Takes.there (Takes.there (Takes.there (Takes.here _ _))))) | exact HasMap.mp (Takes.there (Takes.there (Takes.there (Takes.there (Takes.here _ _))))) | exact HasMap.rmp (Takes.there (Takes.there (Takes.there (Takes.there (Takes.there (Takes.here _ _)))))) | exact HasMap.mp (Takes.there (Takes.there (Takes.there (Takes.there (Takes.there (Takes.here _ _)))))) | exact HasMap.rmp (Takes.there (Takes.there (Takes.there (Takes.there (Takes.there (Takes.there (Takes.here _ _))))))) | exact HasMap.mp (Takes.there (Takes.there (Takes.there (Takes.there (Takes.there (Takes.there (Takes.here _ _))))))) | exact HasMap.rmp (Takes.there (Takes.there (Takes.there (Takes.there (Takes.there (Takes.there (Takes.there (Takes.here _ _)))))))) | exact HasMap.mp (Takes.there (Takes.there (Takes.there (Takes.there (Takes.there (Takes.there (Takes.there (Takes.here _ _)))))))) | exact HasMap.rmp (Takes.there (Takes.there (Takes.there (Takes.there (Takes.there (Takes.there (Takes.there (Takes.there (Takes.here _ _))))))))) | exact HasMap.mp (Takes.there (Takes.there (Takes.there (Takes.there (Takes.there (Takes.there (Takes.there (Takes.there (Takes.here _ _))))))))) | exact HasMap.rmp (Takes.there (Takes.there (Takes.there (Takes.there (Takes.there (Takes.there (Takes.there (Takes.there (Takes.there (Takes.here _ _)))))))))) | exact HasMap.mp (Takes.there (Takes.there (Takes.there (Takes.there (Takes.there (Takes.there (Takes.there (Takes.there (Takes.there (Takes.here _ _)))))))))) | exact HasMap.rmp (Takes.there (Takes.there (Takes.there (Takes.there (Takes.there (Takes.there (Takes.there (Takes.there (Takes.there (Takes.there (Takes.here _ _))))))))))) | exact HasMap.mp (Takes.there (Takes.there (Takes.there (Takes.there (Takes.there (Takes.there (Takes.there (Takes.there (Takes.there (Takes.there (Takes.here _ _))))))))))) | exact HasMap.rmp (Takes.there (Takes.there (Takes.there (Takes.there (Takes.there (Takes.there (Takes.there (Takes.there (Takes.there (Takes.there (Takes.there (Takes.here _ _)))))))))))) | exact HasMap.mp (Takes.there (Takes.there (Takes.there (Takes.there (Takes.there (Takes.there (Takes.there (Takes.there (Takes.there (Takes.there (Takes.there (Takes.here _ _)))))))))))) | exact HasMap.rmp (Takes.there (Takes.there (Takes.there (Takes.there (Takes.there (Takes.there (Takes.there (Takes.there (Takes.there (Takes.there (Takes.there (Takes.there (Takes.here _ _))))))))))))) | exact HasMap.mp (Takes.there (Takes.there (Takes.there (Takes.there (Takes.there (Takes.there (Takes.there (Takes.there (Takes.there (Takes.there (Takes.there (Takes.there (Takes.here _ _))))))))))))) | exact HasMap.rmp (Takes.there (Takes.there (Takes.there (Takes.there (Takes.there (Takes.there (Takes.there (Takes.there (Takes.there (Takes.there (Takes.there (Takes.there (Takes.there (Takes.here _ _)))))))))))))) | exact HasMap.mp (Takes.there (Takes.there (Takes.there (Takes.there (Takes.there (Takes.there (Takes.there (Takes.there (Takes.there (Takes.there (Takes.there (Takes.there (Takes.there (Takes.here _ _)))))))))))))) | exact HasMap.rmp (Takes.there (Takes.there (Takes.there (Takes.there (Takes.there (Takes.there (Takes.there (Takes.there (Takes.there (Takes.there (Takes.there (Takes.there (Takes.there (Takes.there (Takes.here _ _))))))))))))))) | exact HasMap.mp (Takes.there (Takes.there (Takes.there (Takes.there (Takes.there (Takes.there (Takes.there (Takes.there (Takes.there (Takes.there (Takes.there (Takes.there (Takes.there (Takes.there (Takes.here _ _))))))))))))))) | exact HasMap.rmp (Takes.there (Takes.there (Takes.there (Takes.there (Takes.there (Takes.there (Takes.there (Takes.there (Takes.there (Takes.there (Takes.there (Takes.there (Takes.there (Takes.there (Takes.there (Takes.here _ _)))))))))))))))) | exact HasMap.mp (Takes.there (Takes.there (Takes.there (Takes.there (Takes.there (Takes.there (Takes.there (Takes.there (Takes.there (Takes.there (Takes.there (Takes.there (Takes.there (Takes.there (Takes.there (Takes.here _ _)))))))))))))))))) : HasMap w0 M enc r m := h
theorem kPure {o : Oper} {v : Value} (h : OpP P w0 L M o v := by (first | (apply OpP.move; exact kEv) | (apply OpP.assign; exact kEv) | (apply OpP.fieldAddr; exact kEv) | (apply OpP.load; exact kEv; exact kHas) | (apply OpP.loadA; exact kEv; exact kHasA; (first | exact rfl | assumption)) | (apply OpP.lookupSet; exact kEv; exact kEv; (first | (apply MapB.has; assumption) | exact HasMap.rmp (Takes.here _ _) | exact HasMap.mp (Takes.here _ _) | exact HasMap.rmp (Takes.there (Takes.here _ _)) | exact HasMap.mp (Takes.there (Takes.here _ _)) | exact HasMap.rmp (Takes.there (Takes.there (Takes.here _ _))) | exact HasMap.mp (Takes.there (Takes.there (Takes.here _ _))) | exact HasMap.rmp (Takes.there (Takes.there (Takes.there (Takes.here _ _)))) | exact HasMap.mp (Takes.there (Takes.there (Takes.there (Takes.here _ _)))) | exact HasMap.rmp (Takes.there (Takes.there (Takes.there (Takes.there (Takes.here _ _))))) | exact HasMap.mp (Takes.there (Takes.there (Takes.there (Takes.there (Takes.here _ _))))) | exact HasMap.rmp (Takes.there (Takes.there (Takes.there (Takes.there (Takes.there (Takes.here _ _)))))) | exact HasMap.mp (Takes.there (Takes.there (Takes.there (Takes.there (Takes.there (Takes.here _ _)))))) | exact HasMap.rmp (Takes.there (Takes.there (Takes.there (Takes.there (Takes.there (Takes.there (Takes.here _ _))))))) | exact HasMap.mp (Takes.there (Takes.there (Takes.there (Takes.there (Takes.there (Takes.there (Takes.here _ _))))))) | exact HasMap.rmp (Takes.there (Takes.there (Takes.there (Takes.there (Takes.there (Takes.there (Takes.there (Takes.here _ _)))))))) | exact HasMap.mp (Takes.there (Takes.there (Takes.there (Takes.there (Takes.there (Takes.there (Takes.there (Takes.here _ _)))))))) | exact HasMap.rmp (Takes.there (Takes.there (Takes.there (Takes.there (Takes.there (Takes.there (Takes.there (Takes.there (Takes.here _ _))))))))) | exact HasMap.mp (Takes.there (Takes.there (Takes.there (Takes.there (Takes.there (Takes.there (Takes.there (Takes.there (Takes.here _ _))))))))) | exact HasMap.rmp (Takes.there (Takes.there (Takes.there (Takes.there (Takes.there (Takes.there (Takes.there (Takes.there (Takes.there (Takes.here _ _)))))))))) | exact HasMap.mp (Takes.there (Takes.there (Takes.there (Takes.there (Takes.there (Takes.there (Takes.there (Takes.there (Takes.there (Takes.here _ _)))))))))) | exact HasMap.rmp (Takes.there (Takes.there (Takes.there (Takes.there (Takes.there (Takes.there (Takes.there (Takes.there (Takes.there (Takes.there (Takes.here _ _))))))))))) | exact HasMap.mp (Takes.there (Takes.there (Takes.there (Takes.there (Takes.there (Takes.there (Takes.there (Takes.there (Takes.there (Takes.there (Takes.here _ _))))))))))) | exact HasMap.rmp (Takes.there (Takes.there (Takes.there (Takes.there (Takes.there (Takes.there (Takes.there (Takes.there (Takes.there (Takes.there (Takes.there (Takes.here _ _)))))))))))) | exact HasMap.mp (Takes.there (Takes.there (Takes.there (Takes.there (Takes.there (Takes.there (Takes.there (Takes.there (Takes.there (Takes.there (Takes.there (Takes.here _ _)))))))))))) | exact HasMap.rmp (Takes.there (Takes.there (Takes.there (Takes.there (Takes.there (Takes.there (Takes.there (Takes.there (Takes.there (Takes.there (Takes.there (Takes.there (Takes.here _ _))))))))))))) | exact HasMap.mp (Takes.there (Takes.there (Takes.there (Takes.there (Takes.there (Takes.there (Takes.there (Takes.there (Takes.there (Takes.there (Takes.there (Takes.there (Takes.here _ _))))))))))))) | exact HasMap.rmp (Takes.there (Takes.there (Takes.there (Takes.there (Takes.there (Takes.there (Takes.there (Takes.there (Takes.there (Takes.there (Takes.there (Takes.there (Takes.there (Takes.here _ _)))))))))))))) | exact HasMap.mp (Takes.there (Takes.there (Takes.there (Takes.there (Takes.there (Takes.there (Takes.there (Takes.there (Takes.there (Takes.there (Takes.there (Takes.there (Takes.there (Takes.here _ _)))))))))))))) | exact HasMap.rmp (Takes.there (Takes.there (Takes.there (Takes.there (Takes.there (Takes.there (Takes.there (Takes.there (Takes.there (Takes.there (Takes.there (Takes.there (Takes.there (Takes.there (Takes.here _ _))))))))))))))) | exact HasMap.mp (Takes.there (Takes.there (Takes.there (Takes.there (Takes.there (Takes.there (Takes.there (Takes.there (Takes.there (Takes.there (Takes.there (Takes.there (Takes.there (Takes.there (Takes.here _ _))))))))))))))) | exact HasMap.rmp (Takes.there (Takes.there (Takes.there (Takes.there (Takes.there (Takes.there (Takes.there (Takes.there (Takes.there (Takes.there (Takes.there (Takes.there (Takes.there (Takes.there (Takes.there (Takes.here _ _)))))))))))))))) | exact HasMap.mp (Takes.there (Takes.there (Takes.there (Takes.there (Takes.there (Takes.there (Takes.there (Takes.there (Takes.there (Takes.there (Takes.there (Takes.there (Takes.there (Takes.there (Takes.there (Takes.here _ _)))))))))))))))))) | (apply OpP.loadSr; exact kEv; exact kTake; exact rfl) | (apply OpP.loadSp; exact kEv; exact kTake; exact rfl) | (apply OpP.pickT; exact kEv; exact kEv) | (apply OpP.pickF; exact kEv; exact kEv) | (apply OpP.notT; exact kEv) | (apply OpP.notF; exact kEv) | (apply OpP.not; exact kEv) | (apply OpP.nilCheck; exact kEv) | (apply OpP.eql; exact kEv; exact kEv) | (apply OpP.neq; exact kEv; exact kEv) | (apply OpP.lss; exact kEv; exact kEv) | (apply OpP.leq; exact kEv; exact kEv) | (apply OpP.gtr; exact kEv; exact kEv) | (apply OpP.geq; exact kEv; exact kEv) | (apply OpP.add; exact kEv; exact kEv) | (apply OpP.sub; exact kEv; exact kEv) | (apply OpP.mul; exact kEv; exact kEv) | (apply OpP.and; exact kEv; exact kEv) | (apply OpP.or; exact kEv; exact kEv) | (apply OpP.xor; exact kEv; exact kEv) | (apply OpP.convert; exact kEv) | (apply OpP.extract; exact kEv; exact rfl) | (apply OpP.len; exact kEv) | (apply OpP.slen; exact kEv) | (apply OpP.neg; exact kEv) | (apply OpP.seql; exact kEv; exact kEv) | (apply OpP.sneq; exact kEv; exact kEv) | (apply OpP.field; exact kEv; exact rfl) | (apply OpP.makeFunc; exact kEvl; exact kEvl) | (apply OpP.makeInterface; exact kEv) | (apply OpP.buildA; exact rfl; exact kEvl; (intro w; kernel_rfl)))) : OpP P w0 L M o v := h
/-- A goal yet to be found, so that no script takes it for what it seeks. -/
structure KW (G : Prop) : Prop where
  out : G
theorem kAuto {G G' : Prop} (k : G') (h : KW G' → G := by
  intro k
  (repeat (first | (apply RL.pur; exact kPure; exact rfl) | refine CJ.seq ?_ | refine CJ.region ?_ | refine RL.nil ?_ | refine XJ.next ?_ | refine CJ.block ?_ | refine CJ.skip ?_ | refine CJ.ret ?_ | refine CJ.exit ?_ | refine XJ.then_ret ?_ | refine XJ.block_ret ?_ | refine XJ.block_normal ?_ | refine XJ.then_exit ?_ | refine XJ.block_exit ?_ | refine XJ.block_other rfl ?_ | refine XJ.then_panic ?_ | refine XJ.block_panic ?_ | (refine CJ.condT ?_ ?_; exact kEv) | (refine CJ.condF ?_ ?_; exact kEv) | (refine RL.guardT rfl rfl ?_) | (refine RL.guardF rfl rfl rfl rfl ?_) | (refine RL.guardU rfl rfl rfl ?_)))
  exact KW.out k) : G := h ⟨k⟩
theorem kEsub {L' : Env} (h : ∀ t v, Env.get L' t = some v → Env.get L t = some v := by (repeat (first | exact Env.sub_nil | (apply Env.sub_cons; exact rfl)))) : ∀ t v, Env.get L' t = some v → Env.get L t = some v := h
end
end Go.Proofs.YtgmapenlgammfaaGreatDoor
