/- A small separation logic over the model's runs of one goroutine: fragments of memory, lists of atoms, frames told by their known slots; one rule for each form of code. Plain lemmas, no statement of the program. -/
import Derived.Below
import Derived.LoopN
import Derived.Orders
import Derived.Tactics
import Derived.WalkKit
import Derived.KernelRfl
set_option linter.all false
namespace Go.Proofs.YtgmapenlgammfaaGreatDoor
open Go Go.RowKit

/-! ### fragments -/
inductive Cel where
  | ro (o : Obj)
  | rw (o : Obj)
def Cel.obj : Cel → Obj
  | .ro o => o
  | .rw o => o
abbrev Frag := Nat → Option Cel
abbrev HProp := Frag → Prop
def Fle (h1 h : Frag) : Prop := ∀ i c, h1 i = some c → h i = some c
def Sep (h1 h2 : Frag) : Prop := ∀ i o, (h1 i = some (.rw o) → h2 i = none) ∧ (h2 i = some (.rw o) → h1 i = none)
theorem Fle.refl (h : Frag) : Fle h h := fun _ _ e => e
theorem Fle.trans {a b c : Frag} (h : Fle a b) (k : Fle b c) : Fle a c := fun i x e => k i x (h i x e)
theorem Sep.symm {a b : Frag} (h : Sep a b) : Sep b a := fun i o => ⟨(h i o).2, (h i o).1⟩
theorem Fle.none {a b : Frag} (h : Fle a b) {i : Nat} (e : b i = none) : a i = none := by
  cases x : a i with
  | none => rfl
  | some c => rw [h i c x] at e; cases e
theorem Sep.le {a b a' b' : Frag} (h : Sep a b) (ha : Fle a' a) (hb : Fle b' b) : Sep a' b' :=
  fun i o => ⟨fun e => hb.none ((h i o).1 (ha i _ e)), fun e => ha.none ((h i o).2 (hb i _ e))⟩
def Funion (a b : Frag) : Frag := fun i => (a i).or (b i)
theorem Funion.left (a b : Frag) : Fle a (Funion a b) := fun i c e => by simp [Funion, e]
theorem Funion.le {a b h : Frag} (ha : Fle a h) (hb : Fle b h) : Fle (Funion a b) h := by
  intro i c e
  unfold Funion at e
  cases x : a i with
  | none => rw [x] at e; exact hb i c (by simpa using e)
  | some y => rw [x] at e; exact ha i c (by simpa [x] using e)
theorem Funion.right {a b h : Frag} (ha : Fle a h) (hb : Fle b h) : Fle b (Funion a b) := by
  intro i c e
  unfold Funion
  cases x : a i with
  | none => simpa using e
  | some y => have := ha i y x; have := hb i c e; simp_all
theorem Sep.union {a b c : Frag} (h1 : Sep a b) (h2 : Sep a c) : Sep a (Funion b c) := by
  intro i o
  constructor
  · intro e; simp [Funion, (h1 i o).1 e, (h2 i o).1 e]
  · intro e
    unfold Funion at e
    cases x : b i with
    | none => rw [x] at e; exact (h2 i o).2 (by simpa using e)
    | some y => rw [x] at e; exact (h1 i o).2 (by simpa [x] using e)

def star : List HProp → HProp
  | [], _ => True
  | A :: M, h => ∃ h1 h2, Fle h1 h ∧ Fle h2 h ∧ Sep h1 h2 ∧ A h1 ∧ star M h2

theorem star.mono {M : List HProp} {h h' : Frag} (s : star M h) (l : Fle h h') : star M h' := by
  cases M with
  | nil => trivial
  | cons A M =>
    obtain ⟨h1, h2, l1, l2, d, a, m⟩ := s
    exact ⟨h1, h2, l1.trans l, l2.trans l, d, a, m⟩
theorem star.tail {A : HProp} {M : List HProp} {h : Frag} (s : star (A :: M) h) : star M h := by
  obtain ⟨h1, h2, l1, l2, d, a, m⟩ := s
  exact m.mono l2
theorem star.swap {A B : HProp} {M : List HProp} {h : Frag} (s : star (A :: B :: M) h) : star (B :: A :: M) h := by
  obtain ⟨h1, h2, l1, l2, d, a, h3, h4, l3, l4, d', b, m⟩ := s
  exact ⟨h3, Funion h1 h4, l3.trans l2, Funion.le l1 (l4.trans l2), Sep.union (d.le (Fle.refl _) l3).symm d', b, h1, h4, Funion.left _ _, Funion.right l1 (l4.trans l2), d.le (Fle.refl _) l4, a, m⟩
theorem star.cons_mono {A : HProp} {M N : List HProp} (k : ∀ h, star M h → star N h) {h : Frag} (s : star (A :: M) h) : star (A :: N) h := by
  obtain ⟨h1, h2, l1, l2, d, a, m⟩ := s
  exact ⟨h1, h2, l1, l2, d, a, k _ m⟩
theorem star.perm {M N : List HProp} (p : M.Perm N) : ∀ {h : Frag}, star M h → star N h := by
  induction p with
  | nil => exact fun s => s
  | cons A _ ih => exact fun s => s.cons_mono (fun _ => ih)
  | swap A B l => exact fun s => s.swap
  | trans _ _ ih1 ih2 => exact fun s => ih2 (ih1 s)
theorem star.split {M N : List HProp} : ∀ {h : Frag}, star (M ++ N) h → ∃ h1 h2, Fle h1 h ∧ Fle h2 h ∧ Sep h1 h2 ∧ star M h1 ∧ star N h2 := by
  induction M with
  | nil => exact fun {h} s => ⟨fun _ => none, h, (fun _ _ e => by cases e), Fle.refl _, fun i o => ⟨(fun e => by cases e), fun _ => rfl⟩, trivial, s⟩
  | cons A M ih =>
    intro h s
    obtain ⟨h1, h2, l1, l2, d, a, m⟩ := s
    obtain ⟨h3, h4, l3, l4, d', m3, m4⟩ := ih m
    exact ⟨Funion h1 h3, h4, Funion.le l1 (l3.trans l2), l4.trans l2, (Sep.union (d.le (Fle.refl _) l4).symm d'.symm).symm, ⟨h1, h3, Funion.left _ _, Funion.right l1 (l3.trans l2), d.le (Fle.refl _) l3, a, m3⟩, m4⟩
theorem star.join {M N : List HProp} : ∀ {h h1 h2 : Frag}, Fle h1 h → Fle h2 h → Sep h1 h2 → star M h1 → star N h2 → star (M ++ N) h := by
  induction M with
  | nil => exact fun _ l2 _ _ n => n.mono l2
  | cons A M ih =>
    intro h h1 h2 l1 l2 d m n
    obtain ⟨h3, h4, l3, l4, d', a, m⟩ := m
    refine ⟨h3, Funion h4 h2, l3.trans l1, Funion.le (l4.trans l1) l2, Sep.union d' (d.le l3 (Fle.refl _)), a, ?_⟩
    exact ih (Funion.left _ _) (Funion.right (l4.trans l1) l2) (d.le l4 (Fle.refl _)) m n

/-! ### taking atoms out of a list -/
/-- From M the atoms A may be taken, M' is left. -/
def Takes (M A M' : List HProp) : Prop := ∀ h, star M h → star (A ++ M') h
theorem Takes.nil (M : List HProp) : Takes M [] M := fun _ s => s
theorem Takes.here (A : HProp) (M : List HProp) : Takes (A :: M) [A] M := fun _ s => s
theorem Takes.there {A B : HProp} {M M' : List HProp} (k : Takes M [A] M') : Takes (B :: M) [A] (B :: M') :=
  fun _ s => (s.cons_mono (k)).swap
theorem Takes.cons {A : HProp} {M M1 M2 As : List HProp} (k : Takes M [A] M1) (k2 : Takes M1 As M2) : Takes M (A :: As) M2 :=
  fun h s => (k h s).cons_mono k2
theorem Takes.done (M : List HProp) : Takes M M [] := fun _ s => by simpa using s
theorem Takes.app (A M : List HProp) : Takes (A ++ M) A M := fun _ s => s
theorem Takes.there1 {A B : List HProp} {C : HProp} {M : List HProp} (k : Takes M A B) : Takes (C :: M) A (C :: B) := fun h s => by
  have s1 := s.cons_mono k
  refine star.perm ?_ s1
  exact List.perm_middle.symm
/-- From M follows N (atoms may be dropped). -/
def Gives (M N : List HProp) : Prop := ∀ h, star M h → star N h
theorem Gives.refl (M : List HProp) : Gives M M := fun _ s => s
theorem Gives.nil (M : List HProp) : Gives M [] := fun _ _ => trivial
theorem Gives.cons {A : HProp} {M M1 N : List HProp} (k : Takes M [A] M1) (k2 : Gives M1 N) : Gives M (A :: N) := fun h s => (k h s).cons_mono k2
theorem Gives.trans {A B C : List HProp} (k : Gives A B) (l : Gives B C) : Gives A C := fun h s => l h (k h s)
theorem Takes.gives {M A M' N : List HProp} (k : Takes M A M') (g : Gives (A ++ M') N) : Gives M N := fun h s => g h (k h s)
theorem Gives.app {A B M : List HProp} (k : Gives A B) : Gives (A ++ M) (B ++ M) := fun h s => by
  obtain ⟨h1, h2, l1, l2, d, m, n⟩ := s.split
  exact star.join l1 l2 d (k _ m) n
theorem Takes.drop2 (A : List HProp) (C : HProp) (F : List HProp) : Gives (A ++ C :: F) (A ++ F) := fun h s => by
  have s1 : star (C :: (A ++ F)) h := star.perm List.perm_middle s
  exact s1.tail
theorem Gives.drop {A : HProp} {M N : List HProp} (k : Gives M N) : Gives (A :: M) N := fun h s => k h s.tail
theorem Gives.drop1 (A : HProp) (M : List HProp) : Gives (A :: M) M := fun _ s => s.tail

/-! ### atoms -/
def pt (b : Nat) (o : Obj) : HProp := fun h => h b = some (.rw o)
def ro (b : Nat) (o : Obj) : HProp := fun h => h b = some (.ro o)
/-- A block of plain cells. -/
abbrev cel (b : Nat) (T : TypeId) (cs : List Value) : HProp := pt b (.cells cs.toArray T (0, 0))
abbrev rcel (b : Nat) (T : TypeId) (cs : List Value) : HProp := ro b (.cells cs.toArray T (0, 0))
theorem ro.dup {b : Nat} {o : Obj} {M : List HProp} {h : Frag} (s : star (ro b o :: M) h) : star (ro b o :: ro b o :: M) h := by
  obtain ⟨h1, h2, l1, l2, d, a, m⟩ := s
  have a' : h1 b = some (.ro o) := a
  refine ⟨fun i => if i = b then some (.ro o) else none, h, ?_, Fle.refl _, ?_, by simp [ro], ⟨h1, h2, l1, l2, d, a, m⟩⟩
  · intro i c e
    by_cases hi : i = b
    · subst hi; simp at e; subst e; exact l1 _ _ a'
    · simp [hi] at e
  · intro i o'
    constructor
    · intro e
      by_cases hi : i = b
      · subst hi; simp at e
      · simp [hi] at e
    · intro e
      by_cases hi : i = b
      · subst hi; have := l1 _ _ a'; rw [this] at e; cases e
      · simp [hi]
theorem Takes.ro {b : Nat} {o : Obj} {M : List HProp} : Takes (ro b o :: M) [ro b o] (ro b o :: M) := fun _ s => ro.dup s

/-! ### the world: the base is as it was, the fragment is there -/
structure Sat (w0 w : World) (h : Frag) : Prop where
  os : w.os = w0.os
  tape : w.tape = w0.tape
  output : w.output = w0.output
  size : w0.heap.size ≤ w.heap.size
  base : ∀ i, i < w0.heap.size → w.heap[i]? = w0.heap[i]?
  own : ∀ i c, h i = some c → w0.heap.size ≤ i ∧ w.heap[i]? = some c.obj
theorem Sat.below {w0 w : World} {h : Frag} (s : Sat w0 w h) : Below w0.heap.size w0 w := ⟨s.os, s.tape, s.output, s.size, s.base⟩
theorem Sat.le {w0 w : World} {h h' : Frag} (s : Sat w0 w h) (l : Fle h' h) : Sat w0 w h' := ⟨s.os, s.tape, s.output, s.size, s.base, fun i c e => s.own i c (l i c e)⟩
theorem Sat.refl (w : World) : Sat w w (fun _ => none) := ⟨rfl, rfl, rfl, Nat.le_refl _, fun _ _ => rfl, fun _ _ e => by cases e⟩
theorem Sat.of_below {w0 w : World} (b : Below w0.heap.size w0 w) : Sat w0 w (fun _ => none) := ⟨b.os, b.tape, b.output, b.size, b.block, fun _ _ e => by cases e⟩
theorem Sat.lt {w0 w : World} {h : Frag} (s : Sat w0 w h) {i : Nat} {c : Cel} (e : h i = some c) : i < w.heap.size := by
  have := (s.own i c e).2
  exact (Array.getElem?_eq_some_iff.1 this).1
theorem Sat.drawn {w0 w : World} {h : Frag} (s : Sat w0 w h) (n : Nat) : Sat w0 { w with drawn := n } h := ⟨s.os, s.tape, s.output, s.size, s.base, s.own⟩
theorem Sat.pt {w0 w : World} {h : Frag} (s : Sat w0 w h) {b : Nat} {o : Obj} {M : List HProp} (t : star (pt b o :: M) h) : w.heap[b]? = some o := by
  obtain ⟨h1, h2, l1, l2, d, a, m⟩ := t
  exact (s.own b _ (l1 b _ a)).2
theorem Sat.ro {w0 w : World} {h : Frag} (s : Sat w0 w h) {b : Nat} {o : Obj} {M : List HProp} (t : star (ro b o :: M) h) : w.heap[b]? = some o := by
  obtain ⟨h1, h2, l1, l2, d, a, m⟩ := t
  exact (s.own b _ (l1 b _ a)).2
theorem Sat.push {w0 w : World} {h : Frag} {M : List HProp} (s : Sat w0 w h) (t : star M h) (o : Obj) :
    ∃ h', star (Go.Proofs.YtgmapenlgammfaaGreatDoor.pt w.heap.size o :: M) h' ∧ Sat w0 { w with heap := w.heap.push o } h' := by
  have hn : h w.heap.size = none := by
    cases x : h w.heap.size with
    | none => rfl
    | some c => have := s.lt x; omega
  refine ⟨fun i => if i = w.heap.size then some (.rw o) else h i, ⟨fun i => if i = w.heap.size then some (.rw o) else none, h, ?_, ?_, ?_, by simp [Go.Proofs.YtgmapenlgammfaaGreatDoor.pt], t⟩, ?_⟩
  · intro i c e
    by_cases hi : i = w.heap.size
    · simpa [hi] using e
    · simp [hi] at e
  · intro i c e
    by_cases hi : i = w.heap.size
    · rw [hi, hn] at e; cases e
    · simpa [hi] using e
  · intro i o'
    constructor
    · intro e
      by_cases hi : i = w.heap.size
      · rw [hi]; exact hn
      · simp [hi] at e
    · intro e
      by_cases hi : i = w.heap.size
      · rw [hi, hn] at e; cases e
      · simp [hi]
  · refine ⟨s.os, s.tape, s.output, by simp; have := s.size; omega, ?_, ?_⟩
    · intro i hi
      have := s.size
      simp only [Array.getElem?_push]
      rw [if_neg (by omega)]
      exact s.base i hi
    · intro i c e
      by_cases hi : i = w.heap.size
      · subst hi
        simp at e
        subst e
        exact ⟨s.size, by simp [Cel.obj]⟩
      · simp [hi] at e
        have := s.own i c e
        have hlt := s.lt e
        refine ⟨this.1, ?_⟩
        simp only [Array.getElem?_push]
        rw [if_neg (by omega)]
        exact this.2
theorem Sat.put {w0 w w' : World} {h : Frag} {M : List HProp} {b : Nat} {o o' : Obj} (s : Sat w0 w h) (t : star (Go.Proofs.YtgmapenlgammfaaGreatDoor.pt b o :: M) h)
    (e1 : w'.os = w.os) (e2 : w'.tape = w.tape) (e3 : w'.output = w.output) (e4 : w'.heap.size = w.heap.size) (e5 : ∀ i, i ≠ b → w'.heap[i]? = w.heap[i]?) (e6 : w'.heap[b]? = some o') :
    ∃ h', star (Go.Proofs.YtgmapenlgammfaaGreatDoor.pt b o' :: M) h' ∧ Sat w0 w' h' := by
  obtain ⟨h1, h2, l1, l2, d, a, m⟩ := t
  have a' : h1 b = some (.rw o) := a
  have hb := s.own b _ (l1 b _ a')
  have h2b : h2 b = none := (d b o).1 a'
  refine ⟨fun i => if i = b then some (.rw o') else h2 i, ⟨fun i => if i = b then some (.rw o') else none, h2, ?_, ?_, ?_, by simp [Go.Proofs.YtgmapenlgammfaaGreatDoor.pt], m⟩, ?_⟩
  · intro i c e
    by_cases hi : i = b
    · simpa [hi] using e
    · simp [hi] at e
  · intro i c e
    by_cases hi : i = b
    · rw [hi, h2b] at e; cases e
    · simpa [hi] using e
  · intro i o2
    constructor
    · intro e
      by_cases hi : i = b
      · rw [hi]; exact h2b
      · simp [hi] at e
    · intro e
      by_cases hi : i = b
      · rw [hi, h2b] at e; cases e
      · simp [hi]
  · refine ⟨e1.trans s.os, e2.trans s.tape, e3.trans s.output, by rw [e4]; exact s.size, ?_, ?_⟩
    · intro i hi
      rw [e5 i (by have := hb.1; omega)]
      exact s.base i hi
    · intro i c e
      by_cases hi : i = b
      · subst hi; simp at e; subst e; exact ⟨hb.1, e6⟩
      · simp [hi] at e
        have := s.own i c (l2 i c e)
        exact ⟨this.1, by rw [e5 i hi]; exact this.2⟩
/-- An owned block is read-only from here on. -/
theorem Sat.freeze {w0 w : World} {h : Frag} {M : List HProp} {b : Nat} {o : Obj} (s : Sat w0 w h) (t : star (Go.Proofs.YtgmapenlgammfaaGreatDoor.pt b o :: M) h) :
    ∃ h', star (Go.Proofs.YtgmapenlgammfaaGreatDoor.ro b o :: M) h' ∧ Sat w0 w h' := by
  obtain ⟨h1, h2, l1, l2, d, a, m⟩ := t
  have a' : h1 b = some (.rw o) := a
  have hb := s.own b _ (l1 b _ a')
  have h2b : h2 b = none := (d b o).1 a'
  refine ⟨fun i => if i = b then some (.ro o) else h2 i, ⟨fun i => if i = b then some (.ro o) else none, h2, ?_, ?_, ?_, by simp [Go.Proofs.YtgmapenlgammfaaGreatDoor.ro], m⟩, ?_⟩
  · intro i c e
    by_cases hi : i = b
    · simpa [hi] using e
    · simp [hi] at e
  · intro i c e
    by_cases hi : i = b
    · rw [hi, h2b] at e; cases e
    · simpa [hi] using e
  · intro i o2
    constructor
    · intro e
      by_cases hi : i = b
      · subst hi; simp at e
      · simp [hi] at e
    · intro e
      by_cases hi : i = b
      · rw [hi, h2b] at e; cases e
      · simp [hi]
  · refine ⟨s.os, s.tape, s.output, s.size, s.base, ?_⟩
    intro i c e
    by_cases hi : i = b
    · subst hi; simp at e; subst e; exact hb
    · simp [hi] at e
      exact s.own i c (l2 i c e)

/-! ### frames by their known slots -/
abbrev Env := List (Nat × Value)
def Env.get : Env → Nat → Option Value
  | [], _ => none
  | (k, v) :: r, t => bif Nat.beq k t then some v else Env.get r t
theorem Look.here {k : Nat} {v : Value} {r : Env} : Env.get ((k, v) :: r) k = some v := by simp [Env.get]
theorem Look.there {k t : Nat} {u : Value} {r : Env} {x : Option Value} (h : Env.get r t = x) (e : Nat.beq k t = false) : Env.get ((k, u) :: r) t = x := by simp [Env.get, e, h]
structure St (n : Nat) (L : Env) (a : Act) : Prop where
  df : a.defers = []
  sz : a.tmps.size = n
  ok : ∀ t v, L.get t = some v → a.tmps[t]? = some v
theorem St.put {n : Nat} {L : Env} {a : Act} (s : St n L a) {d : Nat} (v : Value) (hd : Nat.blt d n = true) : St n ((d, v) :: L) (a.put (some d) v) := by
  have hd' : d < n := by simpa [Nat.blt_eq] using hd
  refine ⟨s.df, by simp [Act.put, s.sz], ?_⟩
  intro t u e
  simp only [Env.get] at e
  simp only [Act.put]
  cases hb : Nat.beq d t with
  | true =>
    have : d = t := Nat.eq_of_beq_eq_true hb
    subst this
    rw [hb] at e
    simp at e
    subst e
    simp [s.sz, hd']
  | false =>
    rw [hb] at e
    have hne : d ≠ t := Nat.ne_of_beq_eq_false hb
    rw [Array.getElem?_setIfInBounds_ne hne]
    exact s.ok t u (by simpa using e)
theorem St.sub {n : Nat} {L L' : Env} {a : Act} (s : St n L a) (k : ∀ t v, L'.get t = some v → L.get t = some v) : St n L' a := ⟨s.df, s.sz, fun t v e => s.ok t v (k t v e)⟩
/-- An operand's value. -/
def Ev (L : Env) (x : Operand) (v : Value) : Prop := ∀ n a, St n L a → a.eval x = v
theorem Ev.tmp {L : Env} {t : Nat} {v : Value} (h : L.get t = some v) : Ev L (.tmp t) v := fun n a s => by simp [Act.eval, s.ok t v h]
theorem Ev.const {L : Env} {v : Value} : Ev L (.const v) v := fun _ _ _ => rfl
theorem Ev.func {L : Env} {f : FuncId} : Ev L (.func f) (.func (.func f) #[] #[]) := fun _ _ _ => rfl
theorem Ev.glob {L : Env} {g : Nat} : Ev L (.global g) (.pointer (some ⟨g, 0, none⟩)) := fun _ _ _ => rfl
theorem Act.getD_eval (a : Act) (t : Nat) : a.tmps.getD t undef = a.eval (.tmp t) := rfl

/-! ### judgements -/
/-- Behind the exit e the rest Q holds. -/
def XJ (w0 : World) (n : Nat) (e : Exit) (Q : Exit → Act → World → Prop) (L : Env) (M : List HProp) : Prop :=
  ∀ a w h, St n L a → star M h → Sat w0 w h → Q e a w
def CJ (P : Program) (w0 : World) (n : Nat) (c : Code) (Q : Exit → Act → World → Prop) (L : Env) (M : List HProp) : Prop :=
  ∀ a w h, St n L a → star M h → Sat w0 w h → c.wp P Q a w
def RL (P : Program) (w0 : World) (n : Nat) (ops : Array Oper) (Q : Exit → Act → World → Prop) (l : List Oper) (L : Env) (M : List HProp) : Prop :=
  ∀ a w h, St n L a → star M h → Sat w0 w h → wpList P ops Q l a w

section
variable {P : Program} {w0 : World} {n : Nat} {ops : Array Oper} {Q : Exit → Act → World → Prop} {L : Env} {M : List HProp}

theorem XJ.gives {e : Exit} {M' : List HProp} (g : Gives M M') (k : XJ w0 n e Q L M') : XJ w0 n e Q L M := fun a w h s m t => k a w h s (g h m) t
theorem CJ.gives {c : Code} {M' : List HProp} (g : Gives M M') (k : CJ P w0 n c Q L M') : CJ P w0 n c Q L M := fun a w h s m t => k a w h s (g h m) t
theorem RL.gives {l : List Oper} {M' : List HProp} (g : Gives M M') (k : RL P w0 n ops Q l L M') : RL P w0 n ops Q l L M := fun a w h s m t => k a w h s (g h m) t
theorem CJ.env {c : Code} {L' : Env} (g : ∀ t v, L'.get t = some v → L.get t = some v) (k : CJ P w0 n c Q L' M) : CJ P w0 n c Q L M := fun a w h s m t => k a w h (s.sub g) m t
theorem XJ.env {e : Exit} {L' : Env} (g : ∀ t v, L'.get t = some v → L.get t = some v) (k : XJ w0 n e Q L' M) : XJ w0 n e Q L M := fun a w h s m t => k a w h (s.sub g) m t
theorem RL.env {l : List Oper} {L' : Env} (g : ∀ t v, L'.get t = some v → L.get t = some v) (k : RL P w0 n ops Q l L' M) : RL P w0 n ops Q l L M := fun a w h s m t => k a w h (s.sub g) m t
/-- A block becomes read-only. -/
theorem CJ.freeze {c : Code} {M' : List HProp} {b : Nat} {o : Obj} (g : Takes M [pt b o] M') (k : CJ P w0 n c Q L (ro b o :: M')) : CJ P w0 n c Q L M :=
  fun a w h s m t => by
    obtain ⟨h', m', t'⟩ := t.freeze (g h m)
    exact k a w h' s m' t'
theorem RL.freeze {l : List Oper} {M' : List HProp} {b : Nat} {o : Obj} (g : Takes M [pt b o] M') (k : RL P w0 n ops Q l L (ro b o :: M')) : RL P w0 n ops Q l L M :=
  fun a w h s m t => by
    obtain ⟨h', m', t'⟩ := t.freeze (g h m)
    exact k a w h' s m' t'

/-! exits -/
theorem XJ.next {y : Code} {Q' : Exit → Act → World → Prop} (k : CJ P w0 n y Q L M) : XJ w0 n .normal (Exit.then (fun a w => y.wp P Q a w) Q') L M := k
theorem XJ.then_ret {K : Act → World → Prop} (k : XJ w0 n .ret Q L M) : XJ w0 n .ret (Exit.then K Q) L M := k
theorem XJ.then_exit {K : Act → World → Prop} {i : Nat} (k : XJ w0 n (.exit i) Q L M) : XJ w0 n (.exit i) (Exit.then K Q) L M := k
theorem XJ.then_panic {K : Act → World → Prop} {c : List PanicEntry} (k : XJ w0 n (.panic c) Q L M) : XJ w0 n (.panic c) (Exit.then K Q) L M := k
theorem XJ.block_normal {i : Nat} (k : XJ w0 n .normal Q L M) : XJ w0 n .normal (Exit.inBlock i Q) L M := k
theorem XJ.block_ret {i : Nat} (k : XJ w0 n .ret Q L M) : XJ w0 n .ret (Exit.inBlock i Q) L M := k
theorem XJ.block_panic {i : Nat} {c : List PanicEntry} (k : XJ w0 n (.panic c) Q L M) : XJ w0 n (.panic c) (Exit.inBlock i Q) L M := k
theorem XJ.block_exit {i : Nat} (k : XJ w0 n .normal Q L M) : XJ w0 n (.exit i) (Exit.inBlock i Q) L M := fun a w h s m t => by
  simp only [Exit.inBlock, if_true]; exact k a w h s m t
theorem XJ.block_other {i j : Nat} (e : Nat.beq j i = false) (k : XJ w0 n (.exit j) Q L M) : XJ w0 n (.exit j) (Exit.inBlock i Q) L M := fun a w h s m t => by
  have : j ≠ i := Nat.ne_of_beq_eq_false e
  simp only [Exit.inBlock, if_neg this]; exact k a w h s m t

/-! code -/
theorem CJ.seq {x y : Code} (k : CJ P w0 n x (Exit.then (fun a w => y.wp P Q a w) Q) L M) : CJ P w0 n (.seq x y) Q L M := fun a w h s m t => wp_seq (k a w h s m t)
theorem CJ.block {i : Nat} {c : Code} (k : CJ P w0 n c (Exit.inBlock i Q) L M) : CJ P w0 n (.block i c) Q L M := fun a w h s m t => wp_block (k a w h s m t)
theorem CJ.skip (k : XJ w0 n .normal Q L M) : CJ P w0 n .skip Q L M := fun a w h s m t => wp_skip (k a w h s m t)
theorem CJ.exit {i : Nat} (k : XJ w0 n (.exit i) Q L M) : CJ P w0 n (.exit i) Q L M := fun a w h s m t => wp_exit (k a w h s m t)
theorem CJ.ret (k : XJ w0 n .ret Q L M) : CJ P w0 n .ret Q L M := fun a w h s m t => wp_ret (k a w h s m t)
theorem CJ.cond {c : Operand} {x y : Code} {b : Bool} (hc : Ev L c (.bool b)) (k1 : b = true → CJ P w0 n x Q L M) (k2 : b = false → CJ P w0 n y Q L M) : CJ P w0 n (.cond c x y) Q L M :=
  fun a w h s m t => wp_cond (t := b) (hc n a s) (by
    cases b with
    | true => exact k1 rfl a w h s m t
    | false => exact k2 rfl a w h s m t)
theorem CJ.condT {c : Operand} {x y : Code} (hc : Ev L c (.bool true)) (k : CJ P w0 n x Q L M) : CJ P w0 n (.cond c x y) Q L M := CJ.cond hc (fun _ => k) (fun h => by cases h)
theorem CJ.condF {c : Operand} {x y : Code} (hc : Ev L c (.bool false)) (k : CJ P w0 n y Q L M) : CJ P w0 n (.cond c x y) Q L M := CJ.cond hc (fun h => by cases h) (fun _ => k)
theorem CJ.region {i : Nat} {l : List Oper} (k : RL P w0 n l.toArray Q l L M) : CJ P w0 n (.region i l.toArray false) Q L M := fun a w h s m t => wp_region_lit (k a w h s m t)
theorem RL.nil (k : XJ w0 n .normal Q L M) : RL P w0 n ops Q [] L M := k

/-- A loop: states s of type σ, each with a frame and a memory; every round lowers μ. -/
theorem CJ.loop {σ : Type} {c : Code} (C : σ → Prop) (Lf : σ → Env) (Mf : σ → List HProp) (μ : σ → Nat) (s0 : σ) (h0 : C s0)
    (hL : ∀ t v, (Lf s0).get t = some v → L.get t = some v) (hM : Gives M (Mf s0))
    (body : ∀ s, C s → CJ P w0 n c (Exit.then (fun a w => ∃ s', C s' ∧ μ s' < μ s ∧ ∃ h, St n (Lf s') a ∧ star (Mf s') h ∧ Sat w0 w h) Q) (Lf s) (Mf s)) :
    CJ P w0 n (.loop c) Q L M := by
  have key : ∀ k s, μ s < k → C s → ∀ a w h, St n (Lf s) a → star (Mf s) h → Sat w0 w h → ∃ j, Code.rounds P c Q j a w := by
    intro k
    induction k with
    | zero => intro s hs; omega
    | succ k ih =>
      intro s hs hC a w h st sm sa
      have hb := body s hC a w h st sm sa
      -- one round, then by the measure; rounds are monotone in their number
      have mono : ∀ i j a w, i ≤ j → Code.rounds P c Q i a w → Code.rounds P c Q j a w := by
        intro i
        induction i with
        | zero => intro j a w _ hr; exact hr.elim
        | succ i ihi =>
          intro j a w hij hr
          obtain ⟨j, rfl⟩ : ∃ m, j = m + 1 := ⟨j - 1, by omega⟩
          rw [rounds_succ] at hr ⊢
          exact wp_mono hr (fun e a w q => by
            cases e with
            | normal => exact ihi j a w (by omega) q
            | _ => exact q)
      -- the bound on the rounds that are left: μ s' < μ s < k + 1
      have h2 : ∀ m s, μ s < m → C s → ∀ a w h, St n (Lf s) a → star (Mf s) h → Sat w0 w h → Code.rounds P c Q m a w := by
        intro m
        induction m with
        | zero => intro s hs; omega
        | succ m ihm =>
          intro s hs hC a w h st sm sa
          rw [rounds_succ]
          exact wp_mono (body s hC a w h st sm sa) (fun e a w q => by
            cases e with
            | normal =>
              obtain ⟨s', hC', hlt, h', st', sm', sa'⟩ := q
              exact ihm s' (by omega) hC' a w h' st' sm' sa'
            | _ => exact q)
      exact ⟨_, h2 (μ s + 1) s (by omega) hC a w h st sm sa⟩
  intro a w h st sm sa
  obtain ⟨j, hj⟩ := key (μ s0 + 1) s0 (by omega) h0 a w h (st.sub hL) (hM h sm) sa
  exact wp_loop_rounds j hj
theorem XJ.round {σ : Type} {C : σ → Prop} {Lf : σ → Env} {Mf : σ → List HProp} {μ : σ → Nat} {s : σ} (s' : σ) (hC : C s') (hlt : μ s' < μ s)
    (hL : ∀ t v, (Lf s').get t = some v → L.get t = some v) (hM : Gives M (Mf s')) :
    XJ w0 n .normal (Exit.then (fun a w => ∃ s', C s' ∧ μ s' < μ s ∧ ∃ h, St n (Lf s') a ∧ star (Mf s') h ∧ Sat w0 w h) Q) L M :=
  fun a w h st sm sa => ⟨s', hC, hlt, h, st.sub hL, hM h sm, sa⟩
end

/-! frames: a smaller one -/
theorem Env.sub_nil {L : Env} : ∀ t v, Env.get [] t = some v → L.get t = some v := fun _ _ e => by cases e
theorem Env.sub_cons {L L' : Env} {k : Nat} {u : Value} (h : L.get k = some u) (r : ∀ t v, L'.get t = some v → L.get t = some v) : ∀ t v, Env.get ((k, u) :: L') t = some v → L.get t = some v := by
  intro t v e
  simp only [Env.get] at e
  cases hb : Nat.beq k t with
  | true =>
    have := Nat.eq_of_beq_eq_true hb
    subst this
    rw [hb] at e
    simp at e
    subst e
    exact h
  | false => rw [hb] at e; exact r t v (by simpa using e)

/-! ### contracts -/
/-- Function f at these arguments, over the base w0: from the atoms pre it comes to an ending e with the atoms M', R e M'; all else is kept. -/
def Spec (P : Program) (w0 : World) (f : FuncId) (args : Array Value) (pre : List HProp) (R : Ending → List HProp → Prop) : Prop :=
  ∀ (F : List HProp) (w : World) (h : Frag), star (pre ++ F) h → Sat w0 w h →
    Calls P f args w fun e w' => ∃ M' h', R e M' ∧ star (M' ++ F) h' ∧ Sat w0 w' h'

theorem Spec.mono {P : Program} {w0 : World} {f : FuncId} {args : Array Value} {pre : List HProp} {R R' : Ending → List HProp → Prop} (s : Spec P w0 f args pre R) (k : ∀ e M, R e M → R' e M) : Spec P w0 f args pre R' :=
  fun F w h m t => (s F w h m t).mono fun e w' ⟨M', h', r, m', t'⟩ => ⟨M', h', k e M' r, m', t'⟩
/-- What is owned may be handed on as the base: the call only reads it and makes new memory. -/
theorem Spec.rebase {P : Program} {w0 : World} {f : FuncId} {args : Array Value} {M : List HProp} {R : Ending → List HProp → Prop}
    (k : ∀ w h, star M h → Sat w0 w h → Spec P w f args [] R) : Spec P w0 f args M (fun e M' => ∃ N, R e N ∧ M' = N ++ M) := by
  intro F w h m t
  obtain ⟨h1, h2, l1, l2, d, m1, m2⟩ := m.split
  refine (k w h1 m1 (t.le l1) [] w (fun _ => none) (by trivial) (Sat.refl w)).mono ?_
  rintro e w' ⟨N, h', r, n', t'⟩
  simp only [List.append_nil] at n'
  have hs : ∀ i c, h i = some c → h' i = none := by
    intro i c e
    cases x : h' i with
    | none => rfl
    | some c' =>
      have := (t'.own i c' x).1
      have := t.lt e
      omega
  refine ⟨_, Funion h' h, ⟨N, r, rfl⟩, ?_, ?_⟩
  · rw [List.append_assoc]
    refine star.join (Funion.left _ _) ?_ ?_ n' m
    · intro i c e; simp [Funion, hs i c e, e]
    · intro i o
      constructor
      · intro e
        cases x : h i with
        | none => rfl
        | some c => rw [hs i c x] at e; cases e
      · intro e; exact hs i _ e
  · refine ⟨t'.os.trans t.os, t'.tape.trans t.tape, t'.output.trans t.output, Nat.le_trans t.size t'.size, ?_, ?_⟩
    · intro i hi
      rw [t'.base i (by have := t.size; omega)]
      exact t.base i hi
    · intro i c e
      unfold Funion at e
      cases x : h' i with
      | some y =>
        rw [x] at e
        simp at e
        subst e
        have := t'.own i y x
        exact ⟨by have := t.size; omega, this.2⟩
      | none =>
        rw [x] at e
        simp at e
        have h3 := t.own i c e
        exact ⟨h3.1, by rw [t'.base i (t.lt e)]; exact h3.2⟩

theorem St.enter (args : List Value) (m : Nat) (L : Env) (hL : ∀ t v, L.get t = some v → args[t]? = some v) :
    St (args.length + m) L { tmps := args.toArray ++ Array.replicate m undef, defers := [] } := by
  refine ⟨rfl, by simp, ?_⟩
  intro t v e
  have := hL t v e
  have hlt : t < args.length := by
    rcases Nat.lt_or_ge t args.length with h | h
    · exact h
    · rw [List.getElem?_eq_none h] at this; cases this
  rw [Array.getElem?_append_left (by simpa using hlt)]
  simpa using this

/-- The arguments as slots 0, 1, .. -/
def argsEnv : Nat → List Value → Env
  | _, [] => []
  | k, v :: r => (k, v) :: argsEnv (k + 1) r
theorem argsEnv_get (args : List Value) : ∀ k t v, Env.get (argsEnv k args) t = some v → k ≤ t ∧ args[t - k]? = some v := by
  induction args with
  | nil => intro k t v e; simp [argsEnv, Env.get] at e
  | cons x r ih =>
    intro k t v e
    simp only [argsEnv, Env.get] at e
    cases hb : Nat.beq k t with
    | true =>
      have := Nat.eq_of_beq_eq_true hb
      subst this
      rw [hb] at e
      simp at e
      subst e
      simp
    | false =>
      rw [hb] at e
      have hne := Nat.ne_of_beq_eq_false hb
      obtain ⟨h1, h2⟩ := ih (k + 1) t v (by simpa using e)
      refine ⟨by omega, ?_⟩
      rw [show t - k = (t - (k + 1)) + 1 by omega]
      simpa using h2

/-- A function is entered. -/
theorem Spec.enter {P : Program} {w0 : World} {f : FuncId} {fn : Func} {c : Code} {args : List Value} {pre : List HProp} {R : Ending → List HProp → Prop} {n : Nat}
    (hf : P.funcs[f]? = some fn) (hb : fn.body = some c) (hn : fn.ntmps = n) (hle : Nat.ble args.length n = true)
    (k : ∀ F, CJ P w0 n c (bodyPost P fn fun e w' => ∃ M' h', R e M' ∧ star (M' ++ F) h' ∧ Sat w0 w' h') (argsEnv 0 args) (pre ++ F)) : Spec P w0 f args.toArray pre R := by
  intro F w h m t
  refine calls_of_wp hf hb ?_
  have hle' : args.length ≤ n := by simpa [Nat.ble_eq] using hle
  have hst := St.enter args (n - args.length) (argsEnv 0 args) (fun t v e => by have := argsEnv_get args 0 t v e; simpa using this.2)
  rw [show args.length + (n - args.length) = n by omega] at hst
  have : args.toArray.size = args.length := by simp
  rw [hn, this]
  exact k F _ w h hst m t

section
variable {P : Program} {w0 : World} {n : Nat} {L : Env} {M : List HProp} {fn : Func} {R : Ending → List HProp → Prop} {F : List HProp}
abbrev endOf (P : Program) (w0 : World) (fn : Func) (R : Ending → List HProp → Prop) (F : List HProp) : Exit → Act → World → Prop :=
  bodyPost P fn fun e w' => ∃ M' h', R e M' ∧ star (M' ++ F) h' ∧ Sat w0 w' h'
theorem XJ.ret1 {t : Nat} {v : Value} (hr : fn.results = #[.tmp t]) (hv : L.get t = some v) (M' : List HProp) (hM : Gives M (M' ++ F)) (hR : R (.returned v) M') : XJ w0 n .ret (endOf P w0 fn R F) L M :=
  fun a w h s m sa => ⟨s.df, v, by rw [results_tmp hr, Act.getD_eval, Ev.tmp hv n a s], M', h, hR, hM h m, sa⟩
theorem XJ.ret2 {t u : Nat} {v x : Value} (hr : fn.results = #[.tmp t, .tmp u]) (hv : L.get t = some v) (hx : L.get u = some x) (M' : List HProp) (hM : Gives M (M' ++ F)) (hR : R (.returned (.tuple #[v, x])) M') : XJ w0 n .ret (endOf P w0 fn R F) L M :=
  fun a w h s m sa => ⟨s.df, .tuple #[v, x], by rw [results_tmp2 hr, Act.getD_eval, Act.getD_eval, Ev.tmp hv n a s, Ev.tmp hx n a s], M', h, hR, hM h m, sa⟩
theorem XJ.ret0 (hr : fn.results = #[]) (M' : List HProp) (hM : Gives M (M' ++ F)) (hR : R (.returned (.tuple #[])) M') : XJ w0 n .ret (endOf P w0 fn R F) L M :=
  fun a w h s m sa => ⟨s.df, .tuple #[], results_none hr _ _ _, M', h, hR, hM h m, sa⟩
theorem XJ.end0 (hr : fn.results = #[]) (M' : List HProp) (hM : Gives M (M' ++ F)) (hR : R (.returned (.tuple #[])) M') : XJ w0 n .normal (endOf P w0 fn R F) L M :=
  fun a w h s m sa => ⟨s.df, .tuple #[], results_none hr _ _ _, M', h, hR, hM h m, sa⟩
theorem XJ.panics {c : List PanicEntry} (M' : List HProp) (hM : Gives M (M' ++ F)) (hR : R (.panicked c) M') : XJ w0 n (.panic c) (endOf P w0 fn R F) L M :=
  fun a w h s m sa => ⟨s.df, M', h, hR, hM h m, sa⟩
end
attribute [irreducible] Takes Gives Ev XJ CJ RL Spec pt ro
end Go.Proofs.YtgmapenlgammfaaGreatDoor
