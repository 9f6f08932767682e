import Derived.Test.YtgmapenlgammfaaGreatDoorGF
import Derived.Test.YtgmapenlgammfaaGreatDoorGK
import Derived.Test.YtgmapenlgammfaaGreatDoorGE
set_option linter.all false
/- Programs without faults: what their names mean, statement by statement. -/
namespace Go.Proofs.YtgmapenlgammfaaGreatDoor
open Go

def itemOk (C : Ctx) (S : Scope) (s : ByteArray) : Prop := C.arrays s = true ∨ (C.arrays s = false ∧ C.shared s = true ∧ s ∈ S.held)
/-- An expression whose names mean something. -/
inductive WsE (C : Ctx) (S : Scope) : Node → Prop
  | num (n : Int) (s : ByteArray) : 0 ≤ n → n ≤ 2147483647 → WsE C S (.mk 1 n s [])
  | var (n : Int) (s : ByteArray) : S.scalars s = true → WsE C S (.mk 2 n s [])
  | item (n : Int) (s : ByteArray) (a : Node) : itemOk C S s → WsE C S a → WsE C S (.mk 3 n s [a])
  | un (k n : Int) (s : ByteArray) (a : Node) : k = 4 ∨ k = 5 → WsE C S a → WsE C S (.mk k n s [a])
  | bin (k n : Int) (s : ByteArray) (a b : Node) : 6 ≤ k → k ≤ 23 → WsE C S a → WsE C S b → WsE C S (.mk k n s [a, b])
inductive WsP (C : Ctx) (S : Scope) : Node → Prop
  | var (n : Int) (s : ByteArray) : S.scalars s = true → S.loops s = false → WsP C S (.mk 2 n s [])
  | item (n : Int) (s : ByteArray) (a : Node) : itemOk C S s → WsE C S a → WsP C S (.mk 3 n s [a])
/-- A statement whose names mean something. -/
inductive WsS (C : Ctx) : Scope → Node → Prop
  | assign (S : Scope) (n : Int) (s : ByteArray) (p e : Node) : WsP C S p → WsE C S e → WsS C S (.mk 40 n s [p, e])
  | cond (S : Scope) (n : Int) (s : ByteArray) (c : Node) (na : Int) (sa : ByteArray) (la : List Node) (nb : Int) (sb : ByteArray) (lb : List Node) : WsE C S c → (∀ m ∈ la, WsS C S m) → (∀ m ∈ lb, WsS C S m) → WsS C S (.mk 41 n s [c, .mk 47 na sa la, .mk 47 nb sb lb])
  | count (S : Scope) (n : Int) (s : ByteArray) (nb : Int) (sb : ByteArray) (l : List Node) : 1 ≤ n → n ≤ 1000 → C.vars s = false → C.arrays s = false → C.shared s = false → S.loops s = false → (∀ m ∈ l, WsS C (scopeOf S 42 s) m) → WsS C S (.mk 42 n s [.mk 47 nb sb l])
  | while_ (S : Scope) (n : Int) (s : ByteArray) (c : Node) (nb : Int) (sb : ByteArray) (l : List Node) : 1 ≤ n → n ≤ 1000 → WsE C S c → (∀ m ∈ l, WsS C S m) → WsS C S (.mk 43 n s [c, .mk 47 nb sb l])
  | inp (S : Scope) (n : Int) (s : ByteArray) (p : Node) : 0 ≤ n → n ≤ 7 → WsP C S p → WsS C S (.mk 44 n s [p])
  | out (S : Scope) (n : Int) (s : ByteArray) (e : Node) : 0 ≤ n → n ≤ 7 → WsE C S e → WsS C S (.mk 45 n s [e])
  | lock (S : Scope) (n : Int) (s : ByteArray) (nb : Int) (sb : ByteArray) (l : List Node) : C.shared s = true → S.held = [] → (∀ m ∈ l, WsS C (scopeOf S 46 s) m) → WsS C S (.mk 46 n s [.mk 47 nb sb l])
theorem visit_mk {C : Ctx} {k num : Int} {s : ByteArray} {kids : List Node} {place : Bool} {S : Scope} (h : visitN C (.mk k num s kids) place S = 0) : faultE C S k s place = 0 ∧ visitK C kids (k == 40 || k == 44) (scopeOf S k s) = 0 := by
  rw [visitN] at h
  split at h
  · exact ⟨by assumption, by omega⟩
  · omega
theorem visitK_cons {C : Ctx} {n : Node} {r : List Node} {t : Bool} {S : Scope} (h : visitK C (n :: r) t S = 0) : visitN C n t S = 0 ∧ visitK C r false S = 0 := by
  rw [visitK] at h; omega
theorem visitK_mem {C : Ctx} {S : Scope} : ∀ {r : List Node}, visitK C r false S = 0 → ∀ m ∈ r, visitN C m false S = 0
  | [], _, m, hm => by cases hm
  | n :: r, h, m, hm => by
    have h' := visitK_cons h
    rcases List.mem_cons.1 hm with rfl | hm
    · exact h'.1
    · exact visitK_mem h'.2 m hm
theorem item_ok {C : Ctx} {S : Scope} {s : ByteArray} (h : itemE C S s = 0) : itemOk C S s := by
  unfold itemE at h
  split at h
  · exact .inl (by assumption)
  · rename_i h1
    split at h
    · rename_i h2
      split at h
      · rename_i h3
        refine .inr ⟨by simpa using h1, h2, ?_⟩
        obtain ⟨y, hy, e⟩ := List.any_eq_true.1 h3
        rw [of_decide_eq_true e]; exact hy
      · omega
    · split at h <;> omega
theorem scope_same {S : Scope} {k : Int} {s : ByteArray} (h1 : k ≠ 42) (h2 : k ≠ 46) : scopeOf S k s = S := by
  unfold scopeOf; rw [if_neg h1, if_neg h2]
theorem num_form {n : Int} {s : ByteArray} {kids : List Node} (h : isB (.mk 1 n s kids) 1 = true) : 0 ≤ n ∧ n ≤ 2147483647 := by
  obtain ⟨f, hf, -, h2, h3, -⟩ := form_of (by decide) h
  simp [formOf] at hf
  subst hf
  exact ⟨h2, h3⟩
theorem var_ok {C : Ctx} {S : Scope} {s : ByteArray} {place : Bool} (h : varE C S s place = 0) : S.scalars s = true ∧ (place = true → S.loops s = false) := by
  unfold varE at h
  split at h
  · omega
  · rename_i h1
    split at h
    · rename_i h2
      refine ⟨h2, fun e => ?_⟩
      subst e
      simpa using h1
    · split at h <;> omega
theorem wsE_of {C : Ctx} {S : Scope} : ∀ (m : Nat) (n : Node), n.size ≤ m → isB n 1 = true → visitN C n false S = 0 → WsE C S n := by
  intro m
  induction m with
  | zero => intro n h; have := n.size_pos; omega
  | succ m ih =>
    intro n hm hB hV
    obtain ⟨k, num, s, kids⟩ := n
    obtain ⟨hf, hk⟩ := visit_mk hV
    rw [Node.size] at hm
    rcases expr_cases hB with ⟨rfl, rfl⟩ | ⟨rfl, rfl⟩ | ⟨rfl, a, rfl, ha⟩ | ⟨hk4, a, rfl, ha⟩ | ⟨⟨h6, h23⟩, a, b, rfl, ha, hb⟩
    · have := num_form hB
      exact .num _ _ this.1 this.2
    · rw [faultE, if_pos rfl] at hf
      exact .var _ _ (var_ok hf).1
    · rw [faultE, if_neg (by decide), if_pos rfl] at hf
      rw [scope_same (by decide) (by decide)] at hk
      simp only [Node.sizeAll] at hm
      exact .item _ _ _ (item_ok hf) (ih a (by omega) ha (visitK_cons hk).1)
    · rw [scope_same (by omega) (by omega)] at hk
      simp only [Node.sizeAll] at hm
      have e : (k == 40 || k == 44) = false := by simp; omega
      rw [e] at hk
      exact .un _ _ _ _ hk4 (ih a (by omega) ha (visitK_cons hk).1)
    · rw [scope_same (by omega) (by omega)] at hk
      simp only [Node.sizeAll] at hm
      have e : (k == 40 || k == 44) = false := by simp; omega
      rw [e] at hk
      have := visitK_cons hk
      exact .bin _ _ _ _ _ h6 h23 (ih a (by omega) ha this.1) (ih b (by omega) hb (visitK_cons this.2).1)
theorem place_kids {p : Node} (h : isB p 2 = true) (h2 : p.kind = 2) : p.kids = [] := by
  obtain ⟨k, n, s, kids⟩ := p
  simp only [Node.kind, Node.kids] at *
  subst h2
  obtain ⟨f, hf, -, -, -, h5⟩ := form_of (by decide) h
  simp [formOf] at hf
  subst hf
  exact kidsB_nil h5
theorem wsP_of {C : Ctx} {S : Scope} {p : Node} (hB : isB p 2 = true) (hV : visitN C p true S = 0) : WsP C S p := by
  have hc := place_cases hB
  have hk0 := place_kids hB
  obtain ⟨k, num, s, kids⟩ := p
  simp only [Node.kind, Node.kids] at hc hk0
  obtain ⟨hf, hk⟩ := visit_mk hV
  rcases hc with rfl | ⟨rfl, a, rfl, ha⟩
  · rw [hk0 rfl]
    rw [faultE, if_pos rfl] at hf
    have := var_ok hf
    exact .var _ _ this.1 (this.2 rfl)
  · rw [faultE, if_neg (by decide), if_pos rfl] at hf
    rw [scope_same (by decide) (by decide)] at hk
    exact .item _ _ _ (item_ok hf) (wsE_of _ a (Nat.le_refl _) ha (visitK_cons hk).1)
theorem port_form {k n : Int} {s : ByteArray} {kids : List Node} (hk : k = 44 ∨ k = 45) (h : isB (.mk k n s kids) 4 = true) : 0 ≤ n ∧ n ≤ 7 := by
  obtain ⟨f, hf, -, h2, h3, -⟩ := form_of (by omega) h
  rcases hk with rfl | rfl <;> (simp [formOf] at hf; subst hf; exact ⟨h2, h3⟩)
theorem block_mk {b : Node} (h : isB b 8 = true) : ∃ nb sb l, b = .mk 47 nb sb l ∧ ∀ m ∈ l, isB m 4 = true := by
  obtain ⟨k, nb, sb, l⟩ := b
  obtain ⟨rfl, h'⟩ := block_cases h
  exact ⟨_, _, _, rfl, h'⟩
theorem block_visit {C : Ctx} {S : Scope} {nb : Int} {sb : ByteArray} {l : List Node} (h : visitN C (.mk 47 nb sb l) false S = 0) : ∀ m ∈ l, visitN C m false S = 0 := by
  have h' := (visit_mk h).2
  rw [scope_same (by decide) (by decide)] at h'
  exact visitK_mem h'
theorem wsS_of {C : Ctx} : ∀ (m : Nat) (n : Node) (S : Scope), n.size ≤ m → isB n 4 = true → visitN C n false S = 0 → WsS C S n := by
  intro m
  induction m with
  | zero => intro n S h; have := n.size_pos; omega
  | succ m ih =>
    intro n S hm hB hV
    have hb : ∀ (S : Scope) (b : Node), b.size ≤ m → isB b 8 = true → visitN C b false S = 0 → ∃ nb sb l, b = .mk 47 nb sb l ∧ ∀ x ∈ l, WsS C S x := by
      intro S b hs h8 hv
      obtain ⟨nb, sb, l, rfl, h4⟩ := block_mk h8
      refine ⟨nb, sb, l, rfl, fun x hx => ih x S ?_ (h4 x hx) (block_visit hv x hx)⟩
      have := Node.size_mem hx
      rw [Node.size] at hs
      omega
    obtain ⟨k, num, s, kids⟩ := n
    obtain ⟨hf, hk⟩ := visit_mk hV
    rw [Node.size] at hm
    have hc := stmt_cases hB
    cases hc with
    | assign p e hp he =>
      rw [scope_same (by decide) (by decide)] at hk
      have := visitK_cons hk
      exact .assign _ _ _ _ _ (wsP_of hp this.1) (wsE_of _ e (Nat.le_refl _) he (visitK_cons this.2).1)
    | cond c a b hc ha hb' =>
      rw [scope_same (by decide) (by decide)] at hk
      have h1 := visitK_cons hk
      have h2 := visitK_cons h1.2
      have h3 := visitK_cons h2.2
      simp only [Node.sizeAll] at hm
      obtain ⟨na, sa, la, rfl, hla⟩ := hb S a (by omega) ha h2.1
      obtain ⟨nb, sb, lb, rfl, hlb⟩ := hb S b (by omega) hb' h3.1
      exact .cond _ _ _ _ _ _ _ _ _ _ (wsE_of _ c (Nat.le_refl _) hc h1.1) hla hlb
    | count b hb8 h1 h2 =>
      simp only [Node.sizeAll] at hm
      obtain ⟨nb, sb, l, rfl, hl⟩ := hb _ b (by omega) hb8 (visitK_cons hk).1
      rw [faultE, if_neg (by decide), if_neg (by decide), if_pos rfl] at hf
      split at hf
      · omega
      · rename_i hn
        simp only [Bool.or_eq_true, not_or, Bool.not_eq_true] at hn
        exact .count _ _ _ _ _ _ h1 h2 hn.1.1.1 hn.1.1.2 hn.1.2 hn.2 hl
    | while_ c b hc hb8 h1 h2 =>
      rw [scope_same (by decide) (by decide)] at hk
      have h3 := visitK_cons hk
      simp only [Node.sizeAll] at hm
      obtain ⟨nb, sb, l, rfl, hl⟩ := hb S b (by omega) hb8 (visitK_cons h3.2).1
      exact .while_ _ _ _ _ _ _ _ h1 h2 (wsE_of _ c (Nat.le_refl _) hc h3.1) hl
    | inp p hp =>
      rw [scope_same (by decide) (by decide)] at hk
      have := port_form (.inl rfl) hB
      exact .inp _ _ _ _ this.1 this.2 (wsP_of hp (visitK_cons hk).1)
    | out e he =>
      rw [scope_same (by decide) (by decide)] at hk
      have := port_form (.inr rfl) hB
      exact .out _ _ _ _ this.1 this.2 (wsE_of _ e (Nat.le_refl _) he (visitK_cons hk).1)
    | lock b hb8 =>
      simp only [Node.sizeAll] at hm
      obtain ⟨nb, sb, l, rfl, hl⟩ := hb _ b (by omega) hb8 (visitK_cons hk).1
      rw [faultE, if_neg (by decide), if_neg (by decide), if_neg (by decide), if_pos rfl] at hf
      split at hf
      · omega
      · rename_i hn
        split at hf
        · rename_i h0
          exact .lock _ _ _ _ _ _ (by simpa using hn) (List.length_eq_zero_iff.1 h0) hl
        · omega

/-! ### declarations -/
theorem hitN_zero {C : Ctx} {s : ByteArray} (h : hitN C s = 0) : C.shared s = false ∧ C.vars s = false ∧ C.arrays s = false := by
  unfold hitN at h
  split at h
  · omega
  · rename_i h'
    simp only [Bool.or_eq_true, not_or, Bool.not_eq_true] at h'
    exact ⟨h'.1.1, h'.1.2, h'.2⟩
theorem foldV : ∀ (l : List ByteArray) (p : Nat × Ctx), (l.foldl stepV p).1 = 0 → p.1 = 0 ∧ l.Nodup ∧ (∀ s ∈ l, p.2.shared s = false ∧ p.2.vars s = false ∧ p.2.arrays s = false)
  | [], p, h => ⟨h, List.nodup_nil, fun s hs => by cases hs⟩
  | x :: r, p, h => by
    obtain ⟨h1, h2, h3⟩ := foldV r (stepV p x) h
    simp only [stepV] at h1 h3
    have h0 := hitN_zero (show hitN p.2 x = 0 by omega)
    refine ⟨by omega, List.nodup_cons.2 ⟨fun hx => ?_, h2⟩, ?_⟩
    · have := (h3 x hx).2.1
      simp [insV] at this
    · intro s hs
      rcases List.mem_cons.1 hs with rfl | hs
      · exact h0
      · have := h3 s hs
        simp only [insV, Bool.or_eq_false_iff] at this
        exact ⟨this.1, this.2.1.2, this.2.2⟩
theorem foldV_ctx : ∀ (l : List ByteArray) (p : Nat × Ctx), (l.foldl stepV p).2.shared = p.2.shared ∧ (l.foldl stepV p).2.arrays = p.2.arrays ∧ ∀ j, (l.foldl stepV p).2.vars j = true ↔ j ∈ l ∨ p.2.vars j = true
  | [], p => ⟨rfl, rfl, fun j => by simp⟩
  | x :: r, p => by
    obtain ⟨h1, h2, h3⟩ := foldV_ctx r (stepV p x)
    refine ⟨h1, h2, fun j => ?_⟩
    rw [List.foldl_cons, h3]
    simp only [stepV, insV, Bool.or_eq_true, decide_eq_true_eq, List.mem_cons]
    constructor
    · rintro (h | h | h)
      · exact .inl (.inr h)
      · exact .inl (.inl h)
      · exact .inr h
    · rintro ((h | h) | h)
      · exact .inr (.inl h)
      · exact .inl h
      · exact .inr (.inr h)
theorem foldA : ∀ (l : List Arr) (p : Nat × Ctx), (l.foldl stepA p).1 = 0 → p.1 = 0 ∧ (arrNames l).Nodup ∧ (∀ s ∈ arrNames l, p.2.shared s = false ∧ p.2.vars s = false ∧ p.2.arrays s = false)
  | [], p, h => ⟨h, List.nodup_nil, fun s hs => by cases hs⟩
  | x :: r, p, h => by
    obtain ⟨h1, h2, h3⟩ := foldA r (stepA p x) h
    simp only [stepA] at h1 h3
    have h0 := hitN_zero (show hitN p.2 x.name = 0 by omega)
    refine ⟨by omega, List.nodup_cons.2 ⟨fun hx => ?_, h2⟩, ?_⟩
    · have := (h3 x.name hx).2.2
      simp [insA] at this
    · intro s hs
      rcases List.mem_cons.1 hs with rfl | hs
      · exact h0
      · have := h3 s hs
        simp only [insA, Bool.or_eq_false_iff] at this
        exact ⟨this.1, this.2.1, this.2.2.2⟩
theorem foldA_ctx : ∀ (l : List Arr) (p : Nat × Ctx), (l.foldl stepA p).2.shared = p.2.shared ∧ (l.foldl stepA p).2.vars = p.2.vars ∧ ∀ j, (l.foldl stepA p).2.arrays j = true ↔ j ∈ arrNames l ∨ p.2.arrays j = true
  | [], p => ⟨rfl, rfl, fun j => by simp [arrNames]⟩
  | x :: r, p => by
    obtain ⟨h1, h2, h3⟩ := foldA_ctx r (stepA p x)
    refine ⟨h1, h2, fun j => ?_⟩
    rw [List.foldl_cons, h3]
    simp only [stepA, insA, Bool.or_eq_true, decide_eq_true_eq, arrNames, List.map_cons, List.mem_cons]
    constructor
    · rintro (h | h | h)
      · exact .inl (.inr h)
      · exact .inl (.inl h)
      · exact .inr h
    · rintro ((h | h) | h)
      · exact .inr (.inl h)
      · exact .inl h
      · exact .inr (.inr h)
theorem foldS : ∀ (l : List Arr) (p : Nat × (ByteArray → Bool)), (l.foldl stepS p).1 = 0 → p.1 = 0 ∧ (arrNames l).Nodup ∧ ∀ s ∈ arrNames l, p.2 s = false
  | [], p, h => ⟨h, List.nodup_nil, fun s hs => by cases hs⟩
  | x :: r, p, h => by
    obtain ⟨h1, h2, h3⟩ := foldS r (stepS p x) h
    simp only [stepS] at h1 h3
    have h0 : p.1 = 0 ∧ p.2 x.name = false := by
      split at h1
      · omega
      · rename_i h'; exact ⟨by omega, by simpa using h'⟩
    refine ⟨h0.1, List.nodup_cons.2 ⟨fun hx => ?_, h2⟩, ?_⟩
    · have := h3 x.name hx
      simp [insB] at this
    · intro s hs
      rcases List.mem_cons.1 hs with rfl | hs
      · exact h0.2
      · have := h3 s hs
        simp only [insB, Bool.or_eq_false_iff] at this
        exact this.2
theorem foldS_ctx : ∀ (l : List Arr) (p : Nat × (ByteArray → Bool)), ∀ j, (l.foldl stepS p).2 j = true ↔ j ∈ arrNames l ∨ p.2 j = true
  | [], p => fun j => by simp [arrNames]
  | x :: r, p => by
    intro j
    rw [List.foldl_cons, foldS_ctx r]
    simp only [stepS, insB, Bool.or_eq_true, decide_eq_true_eq, arrNames, List.map_cons, List.mem_cons]
    constructor
    · rintro (h | h | h)
      · exact .inl (.inr h)
      · exact .inl (.inl h)
      · exact .inr h
    · rintro ((h | h) | h)
      · exact .inr (.inl h)
      · exact .inl h
      · exact .inr (.inr h)
theorem foldT (sh : ByteArray → Bool) : ∀ (l : List Task) (p : Nat × (ByteArray → Bool)), (l.foldl (stepT sh) p).1 = 0 → p.1 = 0 ∧ ∀ t ∈ l, ∃ q, (taskD sh q t).1 = 0 ∧ visitN (taskD sh q t).2 t.body false ⟨(taskD sh q t).2.vars, noneB, []⟩ = 0
  | [], p, h => ⟨h, fun s hs => by cases hs⟩
  | x :: r, p, h => by
    obtain ⟨h1, h2⟩ := foldT sh r (stepT sh p x) h
    simp only [stepT] at h1
    refine ⟨by omega, ?_⟩
    intro t ht
    rcases List.mem_cons.1 ht with rfl | ht
    · exact ⟨p.2, by omega, by omega⟩
    · exact h2 t ht
/-- A task of a program without faults. -/
structure Chk (C : Ctx) (p : Prg) (T : Task) : Prop where
  vars : ∀ j, C.vars j = true ↔ j ∈ T.vars
  arrays : ∀ j, C.arrays j = true ↔ j ∈ arrNames T.arrays
  shared : ∀ j, C.shared j = true ↔ j ∈ arrNames p.shared
  nv : T.vars.Nodup
  na : (arrNames T.arrays).Nodup
  ns : (arrNames p.shared).Nodup
  vs : ∀ j ∈ T.vars, j ∉ arrNames p.shared
  as_ : ∀ j ∈ arrNames T.arrays, j ∉ arrNames p.shared ∧ j ∉ T.vars
  task : taskB T = true
  body : visitN C T.body false ⟨C.vars, noneB, []⟩ = 0
theorem chk_of {p : Prg} (h : okB p = true) {T : Task} (hT : T ∈ p.tasks) : ∃ C, Chk C p T := by
  unfold okB at h
  rw [Bool.and_eq_true, decide_eq_true_eq] at h
  obtain ⟨hv, hc⟩ := h
  rw [checkN, if_pos hv] at hc
  obtain ⟨h1, h2⟩ := foldT _ _ _ hc
  obtain ⟨q, h3, h4⟩ := h2 T hT
  obtain ⟨-, h5, -⟩ := foldS p.shared (0, noneB) h1
  have h6 : ∀ j, (sharedB p).2 j = true ↔ j ∈ arrNames p.shared := fun j => by
    unfold sharedB
    rw [foldS_ctx]
    simp [noneB]
  generalize (sharedB p).2 = sh at *
  unfold validB at hv
  simp only [Bool.and_eq_true, List.all_eq_true] at hv
  refine ⟨(taskD sh q T).2, ?_⟩
  have hb := hv.2 T hT
  generalize hg : taskD sh q T = D at *
  unfold taskD declT at hg
  obtain ⟨a1, a2, a3⟩ := foldV_ctx T.vars ((if q T.name then 1 else 0), (⟨noneB, noneB, sh⟩ : Ctx))
  obtain ⟨b1, b2, b3⟩ := foldA_ctx T.arrays (T.vars.foldl stepV ((if q T.name then 1 else 0), (⟨noneB, noneB, sh⟩ : Ctx)))
  rw [hg] at b1 b2 b3
  obtain ⟨c1, c2, c3⟩ := foldA T.arrays (T.vars.foldl stepV ((if q T.name then 1 else 0), (⟨noneB, noneB, sh⟩ : Ctx))) (by rw [hg]; exact h3)
  obtain ⟨-, d2, d3⟩ := foldV T.vars ((if q T.name then 1 else 0), (⟨noneB, noneB, sh⟩ : Ctx)) c1
  have hsh : D.2.shared = sh := b1.trans a1
  have hva : ∀ j, D.2.vars j = true ↔ j ∈ T.vars := fun j => by rw [b2, a3]; simp [noneB]
  have hno : ∀ j, sh j = false → j ∉ arrNames p.shared := fun j e hj => by rw [(h6 j).2 hj] at e; cases e
  refine ⟨hva, fun j => ?_, fun j => by rw [hsh]; exact h6 j, d2, c2, h5, fun j hj => hno j (d3 j hj).1, fun j hj => ?_, hb, h4⟩
  · rw [b3, a2]; simp [noneB]
  · have := c3 j hj
    rw [a1] at this
    refine ⟨hno j this.1, fun hj' => ?_⟩
    have e := this.2.1
    rw [(a3 j).2 (.inl hj')] at e
    cases e
/-- The body of a task. -/
theorem Chk.ws {C : Ctx} {p : Prg} {T : Task} (h : Chk C p T) : ∃ num nm l, T.body = .mk 47 num nm l ∧ (∀ m ∈ l, isB m 4 = true) ∧ ∀ m ∈ l, WsS C ⟨C.vars, noneB, []⟩ m := by
  have hb : isB T.body 8 = true := by
    have := h.task
    unfold taskB at this
    simp only [Bool.and_eq_true] at this
    exact this.2.1.1.1
  obtain ⟨num, nm, l, e, h4⟩ := block_mk hb
  refine ⟨num, nm, l, e, h4, fun m hm => wsS_of _ m _ (Nat.le_refl _) (h4 m hm) ?_⟩
  have := h.body
  rw [e] at this
  exact block_visit this m hm
end Go.Proofs.YtgmapenlgammfaaGreatDoor

/- InterpUnrolls as a plain law: a For statement does the same as its block, repeated. -/
namespace Go.Proofs.YtgmapenlgammfaaGreatDoor
open Go

mutual
/-- A tree in which a variable is replaced by a constant. -/
def subN (nm : ByteArray) (v : Int) : Node → Node
  | .mk k n s kids => if k = 2 ∧ s = nm then .mk 1 v sE [] else .mk k n s (subL nm v kids)
def subL (nm : ByteArray) (v : Int) : List Node → List Node
  | [] => []
  | n :: r => subN nm v n :: subL nm v r
end
theorem subL_map (nm : ByteArray) (v : Int) (l : List Node) : subL nm v l = l.map (subN nm v) := by
  induction l with
  | nil => rfl
  | cons n r ih => simp [subL, ih]
abbrev VM := ByteArray → Option Int
/-- States that are the same but for their steps and, in a given way, their variables. -/
structure Eqx (V : VM → VM → Prop) (s s' : JS) : Prop where
  cells : s'.cells = s.cells
  out : s'.out = s.out
  read : s'.read = s.read
  vars : V s.vars s'.vars
def RelX (V : VM → VM → Prop) (r r' : JR) : Prop := r.2 = some 13 ∨ r'.2 = some 13 ∨ (r'.2 = r.2 ∧ ∃ V', Eqx V' r.1 r'.1 ∧ (r.2 = none → Eqx V r.1 r'.1))
theorem RelX.ok {V : VM → VM → Prop} {s s' : JS} {e : Option Int} (h : Eqx V s s') : RelX V (s, e) (s', e) := .inr (.inr ⟨rfl, V, h, fun _ => h⟩)
theorem RelX.bind {V V' : VM → VM → Prop} {r r' : JR} {f f' : JS → JR} (h : RelX V r r') (k : ∀ s s', Eqx V s s' → RelX V' (f s) (f' s')) : RelX V' (bindJ r f) (bindJ r' f') := by
  rcases h with h | h | ⟨h, V2, h1, h2⟩
  · rw [bindJ_some h]; exact .inl rfl
  · rw [bindJ_some h]; exact .inr (.inl rfl)
  · cases e : r.2 with
    | none =>
      rw [e] at h
      rw [bindJ_none e, bindJ_none h]
      exact k _ _ (h2 e)
    | some x =>
      rw [e] at h
      rw [bindJ_some e, bindJ_some h]
      exact .inr (.inr ⟨rfl, V2, h1, fun h => by cases h⟩)
theorem RelX.step {V : VM → VM → Prop} {E : JE} {s s' : JS} (h : Eqx V s s') : RelX V (stepJ E s) (stepJ E s') := by
  unfold stepJ
  split
  · exact .inl rfl
  · split
    · exact .inr (.inl rfl)
    · exact .ok ⟨h.cells, h.out, h.read, h.vars⟩
theorem Eqx.env {V : VM → VM → Prop} {E : JE} {s s' : JS} (h : Eqx V s s') : envA E s' = envA E s := by
  unfold envA; rw [h.cells]
abbrev V0 : VM → VM → Prop := fun a b => b = a
abbrev V1 (nm : ByteArray) (iv : Int) : VM → VM → Prop := fun a b => (∀ j, j ≠ nm → b j = a j) ∧ a nm = some iv ∧ b nm = none
abbrev V2 (nm : ByteArray) : VM → VM → Prop := fun a b => (∀ j, j ≠ nm → b j = a j) ∧ b nm = none
theorem eval_sub {ρ ρ' : VM} {α : ByteArray → Option (List Int)} {nm : ByteArray} {v : Int} (h : ∀ j, j ≠ nm → ρ' j = ρ j) (h1 : ρ nm = some (IntKind.i32.wrap v)) : ∀ n : Node, evalE ρ' α (subN nm v n) = evalE ρ α n := by
  intro n
  induction n using Node.rec (motive_2 := fun l => evalL ρ' α (subL nm v l) = evalL ρ α l) with
  | mk k num s kids ih =>
    rw [subN]
    split
    · rename_i e
      obtain ⟨rfl, rfl⟩ := e
      rw [evalE, evalE]
      simp [evalOp, h1]
    · rename_i e
      rw [evalE, evalE, ih]
      unfold evalOp
      by_cases e2 : k = 2
      · rw [h s (fun e' => e ⟨e2, e'⟩)]
      · simp only [if_neg e2]
  | nil => rfl
  | cons n r h1 h2 => rw [subL, evalL, evalL, h1, h2]
theorem exec_for (E : JE) (n : Int) (s : ByteArray) (nb : Int) (sb : ByteArray) (l : List Node) (t : JS) : execN E (.mk 42 n s [.mk 47 nb sb l]) t = bindJ (stepJ E t) (forJ E s (seqJ (l.map (execN E))) n.toNat 0) := by
  rw [execN, nodeJ, if_neg (by decide)]
  congr 1
  funext t
  simp only [execL, exec_block]
  rfl
theorem exec_while (E : JE) (n : Int) (s : ByteArray) (c : Node) (nb : Int) (sb : ByteArray) (l : List Node) (t : JS) : execN E (.mk 43 n s [c, .mk 47 nb sb l]) t = bindJ (stepJ E t) (whileJ E c (seqJ (l.map (execN E))) n.toNat) := by
  rw [execN, nodeJ, if_neg (by decide)]
  congr 1
  funext t
  simp only [execL, exec_block]
  rfl
theorem exec_if (E : JE) (n : Int) (s : ByteArray) (c : Node) (na : Int) (sa : ByteArray) (la : List Node) (nb : Int) (sb : ByteArray) (lb : List Node) (t : JS) : execN E (.mk 41 n s [c, .mk 47 na sa la, .mk 47 nb sb lb]) t = bindJ (stepJ E t) (ifJ E c (seqJ (la.map (execN E))) (seqJ (lb.map (execN E)))) := by
  rw [execN, nodeJ, if_neg (by decide)]
  congr 1
  funext t
  simp only [execL, exec_block]
  rfl
theorem exec_lock (E : JE) (n : Int) (s : ByteArray) (nb : Int) (sb : ByteArray) (l : List Node) (t : JS) : execN E (.mk 46 n s [.mk 47 nb sb l]) t = bindJ (stepJ E t) (seqJ (l.map (execN E))) := by
  rw [execN, nodeJ, if_neg (by decide)]
  congr 1
  funext t
  simp only [execL, exec_block]
  rfl
theorem exec_assign (E : JE) (n : Int) (s : ByteArray) (p e : Node) (t : JS) : execN E (.mk 40 n s [p, e]) t = bindJ (stepJ E t) (storeJ E p true (fun s => (s, evJ E s e))) := by
  rw [execN, nodeJ, if_neg (by decide)]; rfl
theorem exec_in (E : JE) (n : Int) (s : ByteArray) (p : Node) (t : JS) : execN E (.mk 44 n s [p]) t = bindJ (stepJ E t) (storeJ E p false (recvJ E)) := by
  rw [execN, nodeJ, if_neg (by decide)]; rfl
theorem exec_out (E : JE) (n : Int) (s : ByteArray) (e : Node) (t : JS) : execN E (.mk 45 n s [e]) t = bindJ (stepJ E t) (outJ E e n) := by
  rw [execN, nodeJ, if_neg (by decide)]; rfl
/-- Steps alone: the same statement from states that differ in their steps. -/
def StP (f : JF) : Prop := ∀ E s s', Eqx V0 s s' → RelX V0 (f E s) (f E s')
theorem Eqx.ev0 {E : JE} {s s' : JS} (h : Eqx V0 s s') (c : Node) : evJ E s' c = evJ E s c := by
  unfold evJ; rw [h.env, h.vars]
theorem store_rel {V : VM → VM → Prop} {E : JE} {p p' : Node} {early : Bool} {g g' : JS → JS × Except Int Int} {s s' : JS} (h : Eqx V s s') (hk : p'.kind = p.kind) (hn : p'.name = p.name) (hi : evJ E s' (kid p'.kids 0) = evJ E s (kid p.kids 0))
    (hg : (g' s').2 = (g s).2 ∧ Eqx V (g s).1 (g' s').1) (hv : p.kind = 2 → ∀ v t t', Eqx V t t' → Eqx V (setVar t p.name v) (setVar t' p.name v)) : RelX V (storeJ E p early g s) (storeJ E p' early g' s') := by
  obtain ⟨h1, h2⟩ := hg
  generalize hgs : g s = r at *
  generalize hgs' : g' s' = r' at *
  obtain ⟨s1, x⟩ := r
  obtain ⟨s1', x'⟩ := r'
  simp only at h1 h2
  subst h1
  have hset : ∀ (a : Nat) (i v : Int) (t t' : JS), Eqx V t t' → Eqx V (setCell t a i v) (setCell t' a i v) := fun a i v t t' h => ⟨by simp only [setCell]; rw [h.cells], h.out, h.read, h.vars⟩
  unfold storeJ
  rw [hk, hn, hi, hgs, hgs', h.cells]
  split
  · rename_i e
    cases x' with
    | error e => exact .ok h2
    | ok v => exact .ok (hv e v _ _ h2)
  · cases E.ix p.name with
    | none => exact .ok h
    | some a =>
      simp only
      cases evJ E s (kid p.kids 0) with
      | error e => exact .ok h
      | ok i =>
        simp only
        cases early
        · simp only [Bool.false_eq_true, if_false]
          split
          · cases x' with
            | error e => exact .ok h2
            | ok v => exact .ok (hset _ _ _ _ _ h2)
          · exact .ok h
        · simp only [if_true]
          cases x' with
          | error e => exact .ok h2
          | ok v =>
            simp only
            split
            · exact .ok (hset _ _ _ _ _ h2)
            · exact .ok h2
theorem if_rel {V V' : VM → VM → Prop} {E : JE} {c c' : Node} {a b a' b' : JS → JR} {s s' : JS} (h : Eqx V s s') (hc : evJ E s' c' = evJ E s c) (ha : RelX V' (a s) (a' s')) (hb : RelX V' (b s) (b' s')) : RelX V' (ifJ E c a b s) (ifJ E c' a' b' s') := by
  unfold ifJ
  rw [hc]
  cases evJ E s c with
  | error e => exact .inr (.inr ⟨rfl, V, h, fun h => by cases h⟩)
  | ok v =>
    simp only
    split
    · exact hb
    · exact ha
theorem out_rel {V : VM → VM → Prop} {E : JE} {c c' : Node} {port : Int} {s s' : JS} (h : Eqx V s s') (hc : evJ E s' c' = evJ E s c) : RelX V (outJ E c port s) (outJ E c' port s') := by
  unfold outJ
  rw [hc]
  cases evJ E s c with
  | error e => exact .ok h
  | ok v => exact .ok ⟨h.cells, by simp only; rw [h.out], h.read, h.vars⟩
theorem recv_rel {V : VM → VM → Prop} {E : JE} {s s' : JS} (h : Eqx V s s') : (recvJ E s').2 = (recvJ E s).2 ∧ Eqx V (recvJ E s).1 (recvJ E s').1 := by
  unfold recvJ
  rw [h.read]
  exact ⟨rfl, h.cells, h.out, rfl, h.vars⟩
theorem stClosed : Closed StP where
  no := fun E s s' h => .ok h
  bind := fun f g hf hg E s s' h => (hf E s s' h).bind (fun t t' h => hg E t t' h)
  step := fun E s s' h => .step h
  bound := fun E s s' h => .ok h
  var := fun nm v _ E s s' h => .ok ⟨h.cells, h.out, h.read, by simp only [setVar]; rw [h.vars]⟩
  del := fun nm E s s' h => .ok ⟨h.cells, h.out, h.read, by simp only; rw [h.vars]⟩
  test := fun c f g hf hg E s s' h => if_rel h (h.ev0 c) (hf E s s' h) (hg E s s' h)
  out := fun c port E s s' h => (RelX.step h).bind fun t t' h => out_rel h (h.ev0 c)
  assign := fun place c E s s' h => (RelX.step h).bind fun t t' h => store_rel h rfl rfl (h.ev0 _) ⟨h.ev0 c, h⟩ (fun _ v t t' h => ⟨h.cells, h.out, h.read, by simp only [setVar]; rw [h.vars]⟩)
  inp := fun place E s s' h => (RelX.step h).bind fun t t' h => store_rel h rfl rfl (h.ev0 _) (recv_rel h) (fun _ v t t' h => ⟨h.cells, h.out, h.read, by simp only [setVar]; rw [h.vars]⟩)
theorem st_seq (E : JE) (l : List Node) {s s' : JS} (h : Eqx V0 s s') : RelX V0 (seqJ (l.map (execN E)) s) (seqJ (l.map (execN E)) s') := by
  have := stClosed.seq (l.map fun n E => execN E n) (fun f hf => by
    obtain ⟨n, -, rfl⟩ := List.mem_map.1 hf
    exact stClosed.exec n) E s s' h
  simpa [List.map_map, Function.comp_def] using this
theorem seq_rel {V : VM → VM → Prop} {E : JE} {l : List Node} {g : Node → Node} (h : ∀ m ∈ l, ∀ s s', Eqx V s s' → RelX V (execN E m s) (execN E (g m) s')) : ∀ {s s'}, Eqx V s s' → RelX V (seqJ (l.map (execN E)) s) (seqJ ((l.map g).map (execN E)) s') := by
  induction l with
  | nil => intro s s' e; exact .ok e
  | cons m r ih =>
    intro s s' e
    exact (h m (by simp) s s' e).bind fun t t' e => ih (fun m hm => h m (by simp [hm])) e
theorem for_rel {V : VM → VM → Prop} {E : JE} {nm : ByteArray} {f f' : JS → JR} (hs : ∀ v s s', Eqx V s s' → Eqx V (setVar s nm v) (setVar s' nm v)) (hd : ∀ s s', Eqx V s s' → Eqx V { s with vars := delI s.vars nm } { s' with vars := delI s'.vars nm }) (hf : ∀ s s', Eqx V s s' → RelX V (f s) (f' s')) :
    ∀ k i {s s'}, Eqx V s s' → RelX V (forJ E nm f k i s) (forJ E nm f' k i s')
  | 0, _, s, s', h => .ok (hd _ _ h)
  | k + 1, i, s, s', h => (RelX.step h).bind fun t t' h => (hf _ _ (hs _ _ _ h)).bind fun t t' h => for_rel hs hd hf k (i + 1) h
theorem while_rel {V : VM → VM → Prop} {E : JE} {c c' : Node} {f f' : JS → JR} (hc : ∀ s s', Eqx V s s' → evJ E s' c' = evJ E s c) (hf : ∀ s s', Eqx V s s' → RelX V (f s) (f' s')) :
    ∀ k {s s'}, Eqx V s s' → RelX V (whileJ E c f k s) (whileJ E c' f' k s')
  | 0, s, s', h => (RelX.step h).bind fun t t' h => if_rel h (hc _ _ h) (.ok h) (.ok h)
  | k + 1, s, s', h => (RelX.step h).bind fun t t' h => if_rel h (hc _ _ h) ((hf _ _ h).bind fun t t' h => while_rel hc hf k h) (.ok h)
/-- A statement and the one in which the loop variable is replaced by its value. -/
theorem sub_exec {C : Ctx} {E : JE} {nm : ByteArray} {v : Int} {S : Scope} {n : Node} (hw : WsS C S n) : S.loops nm = true → ∀ s s', Eqx (V1 nm (IntKind.i32.wrap v)) s s' → RelX (V1 nm (IntKind.i32.wrap v)) (execN E n s) (execN E (subN nm v n) s') := by
  have hev : ∀ c s s', Eqx (V1 nm (IntKind.i32.wrap v)) s s' → evJ E s' (subN nm v c) = evJ E s c := fun c s s' h => by
    unfold evJ
    rw [h.env]
    exact eval_sub h.vars.1 h.vars.2.1 c
  have hset : ∀ x, x ≠ nm → ∀ v' s s', Eqx (V1 nm (IntKind.i32.wrap v)) s s' → Eqx (V1 nm (IntKind.i32.wrap v)) (setVar s x v') (setVar s' x v') := fun x hx v' s s' h => by
    refine ⟨h.cells, h.out, h.read, fun j hj => ?_, ?_, ?_⟩
    · simp only [setVar, updI]; split
      · rfl
      · exact h.vars.1 j hj
    · simp only [setVar, updI]; rw [if_neg (Ne.symm hx)]; exact h.vars.2.1
    · simp only [setVar, updI]; rw [if_neg (Ne.symm hx)]; exact h.vars.2.2
  have hdel : ∀ x, x ≠ nm → ∀ s s', Eqx (V1 nm (IntKind.i32.wrap v)) s s' → Eqx (V1 nm (IntKind.i32.wrap v)) { s with vars := delI s.vars x } { s' with vars := delI s'.vars x } := fun x hx s s' h => by
    refine ⟨h.cells, h.out, h.read, fun j hj => ?_, ?_, ?_⟩
    · simp only [delI]; split
      · rfl
      · exact h.vars.1 j hj
    · simp only [delI]; rw [if_neg (Ne.symm hx)]; exact h.vars.2.1
    · simp only [delI]; rw [if_neg (Ne.symm hx)]; exact h.vars.2.2
  have hsub : ∀ (k num : Int) (s : ByteArray) (kids : List Node), k ≠ 2 → subN nm v (.mk k num s kids) = .mk k num s (kids.map (subN nm v)) := fun k num s kids hk => by
    rw [subN, if_neg (fun e => hk e.1), subL_map]
  have hplace : ∀ S p, WsP C S p → S.loops nm = true → (subN nm v p).kind = p.kind ∧ (subN nm v p).name = p.name ∧ (p.kind = 2 → p.name ≠ nm) ∧ ∀ s s', Eqx (V1 nm (IntKind.i32.wrap v)) s s' → evJ E s' (kid (subN nm v p).kids 0) = evJ E s (kid p.kids 0) := fun S p hp hS => by
    cases hp with
    | var n x h1 h2 =>
      have hx : x ≠ nm := fun e => by rw [e, hS] at h2; cases h2
      rw [subN, if_neg (fun e => hx e.2)]
      refine ⟨rfl, rfl, fun _ => hx, fun s s' h => ?_⟩
      show evJ E s' node0 = evJ E s node0
      have := hev node0 s s' h
      exact this
    | item n x a h1 h2 =>
      rw [hsub _ _ _ _ (by decide)]
      exact ⟨rfl, rfl, fun e => absurd e (show ¬ (3 : Int) = 2 by decide), fun s s' h => hev a s s' h⟩
  induction hw with
  | assign S n s p e hp he =>
    intro hS t t' h
    obtain ⟨p1, p2, p3, p4⟩ := hplace S p hp hS
    rw [hsub _ _ _ _ (by decide)]
    simp only [List.map_cons, List.map_nil]
    rw [exec_assign, exec_assign]
    exact (RelX.step h).bind fun t t' h => store_rel h p1 p2 (p4 _ _ h) ⟨hev e _ _ h, h⟩ (fun e v t t' h => hset _ (p3 e) v t t' h)
  | cond S n s c na sa la nb sb lb hc ha hb iha ihb =>
    intro hS t t' h
    rw [hsub _ _ _ _ (by decide)]
    simp only [List.map_cons, List.map_nil]
    rw [hsub 47 na _ _ (by decide), hsub 47 nb _ _ (by decide), exec_if, exec_if]
    exact (RelX.step h).bind fun t t' h => if_rel h (hev c _ _ h) (seq_rel (fun m hm => iha m hm hS) h) (seq_rel (fun m hm => ihb m hm hS) h)
  | count S n s nb sb l h1 h2 h3 h4 h5 h6 hl ih =>
    intro hS t t' h
    have hx : s ≠ nm := fun e => by rw [e, hS] at h6; cases h6
    rw [hsub _ _ _ _ (by decide)]
    simp only [List.map_cons, List.map_nil]
    rw [hsub 47 nb _ _ (by decide), exec_for, exec_for]
    have hS' : (scopeOf S 42 s).loops nm = true := by
      unfold scopeOf
      rw [if_pos rfl]
      simp [hS]
    exact (RelX.step h).bind fun t t' h => for_rel (hset s hx) (hdel s hx) (fun t t' h => seq_rel (fun m hm => ih m hm hS') h) _ _ h
  | while_ S n s c nb sb l h1 h2 hc hl ih =>
    intro hS t t' h
    rw [hsub _ _ _ _ (by decide)]
    simp only [List.map_cons, List.map_nil]
    rw [hsub 47 nb _ _ (by decide), exec_while, exec_while]
    exact (RelX.step h).bind fun t t' h => while_rel (hev c) (fun t t' h => seq_rel (fun m hm => ih m hm hS) h) _ h
  | inp S n s p h1 h2 hp =>
    intro hS t t' h
    obtain ⟨p1, p2, p3, p4⟩ := hplace S p hp hS
    rw [hsub _ _ _ _ (by decide)]
    simp only [List.map_cons, List.map_nil]
    rw [exec_in, exec_in]
    exact (RelX.step h).bind fun t t' h => store_rel h p1 p2 (p4 _ _ h) (recv_rel h) (fun e v t t' h => hset _ (p3 e) v t t' h)
  | out S n s e h1 h2 he =>
    intro hS t t' h
    rw [hsub _ _ _ _ (by decide)]
    simp only [List.map_cons, List.map_nil]
    rw [exec_out, exec_out]
    exact (RelX.step h).bind fun t t' h => out_rel h (hev e _ _ h)
  | lock S n s nb sb l h1 h2 hl ih =>
    intro hS t t' h
    rw [hsub _ _ _ _ (by decide)]
    simp only [List.map_cons, List.map_nil]
    rw [hsub 47 nb _ _ (by decide), exec_lock, exec_lock]
    have hS' : (scopeOf S 46 s).loops nm = true := by
      unfold scopeOf
      rw [if_neg (by decide), if_pos rfl]
      exact hS
    exact (RelX.step h).bind fun t t' h => seq_rel (fun m hm => ih m hm hS') h

/-! ### a name that is not visible stays without a value -/
def KeepN (j : ByteArray) (f : JS → JR) : Prop := ∀ s, s.vars j = none → (f s).2 = none → (f s).1.vars j = none
theorem KeepN.bind {j : ByteArray} {f g : JS → JR} (hf : KeepN j f) (hg : KeepN j g) : KeepN j (fun s => bindJ (f s) g) := fun s h0 h => by
  simp only at h ⊢
  cases e : (f s).2 with
  | none =>
    rw [bindJ_none e] at h ⊢
    exact hg _ (hf s h0 e) h
  | some x => rw [bindJ_some e] at h; cases h
theorem KeepN.step (j : ByteArray) (E : JE) : KeepN j (stepJ E) := fun s h0 h => by
  unfold stepJ at h ⊢
  split
  · exact h0
  · exact h0
theorem KeepN.seq {j : ByteArray} {E : JE} {l : List Node} (h : ∀ m ∈ l, KeepN j (execN E m)) : KeepN j (seqJ (l.map (execN E))) := by
  induction l with
  | nil => exact fun s h0 _ => h0
  | cons m r ih => exact KeepN.bind (h m (by simp)) (ih fun m hm => h m (by simp [hm]))
theorem KeepN.if_ {j : ByteArray} {E : JE} {c : Node} {a b : JS → JR} (ha : KeepN j a) (hb : KeepN j b) : KeepN j (ifJ E c a b) := fun s h0 h => by
  unfold ifJ at h ⊢
  split at h
  · cases h
  · split at h
    · rename_i e'; rw [if_pos e']; exact hb s h0 h
    · rename_i e'; rw [if_neg e']; exact ha s h0 h
theorem KeepN.store {j : ByteArray} {E : JE} {p : Node} {early : Bool} {g : JS → JS × Except Int Int} (hp : p.kind = 2 → p.name ≠ j) (hg : ∀ s, (g s).1.vars = s.vars) : KeepN j (storeJ E p early g) := fun s h0 h => by
  have hg' := hg s
  unfold storeJ at h ⊢
  generalize g s = r at *
  obtain ⟨s1, x⟩ := r
  simp only at hg'
  have h1 : s1.vars j = none := by rw [hg']; exact h0
  by_cases hk : p.kind = 2
  · rw [if_pos hk] at h ⊢
    cases x with
    | error e => exact h1
    | ok v =>
      simp only [setVar, updI]
      rw [if_neg (Ne.symm (hp hk))]
      exact h1
  · rw [if_neg hk] at h ⊢
    cases E.ix p.name with
    | none => exact h0
    | some a =>
      simp only
      cases evJ E s (kid p.kids 0) with
      | error e => exact h0
      | ok i =>
        simp only
        cases early
        · simp only [Bool.false_eq_true, if_false]
          split
          · cases x with
            | error e => exact h1
            | ok v => exact h1
          · exact h0
        · simp only [if_true]
          cases x with
          | error e => exact h1
          | ok v =>
            simp only
            split
            · exact h1
            · exact h1
theorem KeepN.del {j : ByteArray} (s : JS) : (delI s.vars j) j = none := by simp [delI]
theorem keep_exec {C : Ctx} {E : JE} {j : ByteArray} {S : Scope} {n : Node} (hw : WsS C S n) : S.scalars j = false → KeepN j (execN E n) := by
  have hplace : ∀ S p, WsP C S p → S.scalars j = false → p.kind = 2 → p.name ≠ j := fun S p hp hS e => by
    cases hp with
    | var n x h1 h2 => intro e; simp only [Node.name] at e; rw [e, hS] at h1; cases h1
    | item n x a h1 h2 => exact absurd e (show ¬ (3 : Int) = 2 by decide)
  induction hw with
  | assign S n s p e hp he => intro hS; rw [funext (exec_assign E n s p e)]; exact (KeepN.step j E).bind (.store (hplace S p hp hS) fun _ => rfl)
  | cond S n s c na sa la nb sb lb hc ha hb iha ihb => intro hS; rw [funext (exec_if E n s c na sa la nb sb lb)]; exact (KeepN.step j E).bind (.if_ (.seq fun m hm => iha m hm hS) (.seq fun m hm => ihb m hm hS))
  | count S n s nb sb l h1 h2 h3 h4 h5 h6 hl ih =>
    intro hS
    rw [funext (exec_for E n s nb sb l)]
    refine (KeepN.step j E).bind ?_
    by_cases hx : s = j
    · subst hx
      have : ∀ k i t, (forJ E s (seqJ (l.map (execN E))) k i t).2 = none → (forJ E s (seqJ (l.map (execN E))) k i t).1.vars s = none := by
        intro k
        induction k with
        | zero => intro i t _; exact KeepN.del t
        | succ k ihk =>
          intro i t h
          rw [forJ] at h ⊢
          cases e : (stepJ E t).2 with
          | some x => rw [bindJ_some e] at h; cases h
          | none =>
            rw [bindJ_none e] at h ⊢
            cases e2 : (seqJ (l.map (execN E)) (setVar (stepJ E t).1 s (IntKind.i32.wrap i))).2 with
            | some x => rw [bindJ_some e2] at h; cases h
            | none => rw [bindJ_none e2] at h ⊢; exact ihk _ _ h
      exact fun t _ h => this _ _ t h
    · have hS' : (scopeOf S 42 s).scalars j = false := by
        unfold scopeOf
        rw [if_pos rfl]
        simp [hS, Ne.symm hx]
      have hb : KeepN j (seqJ (l.map (execN E))) := .seq fun m hm => ih m hm hS'
      generalize n.toNat = k, (0 : Int) = i
      induction k generalizing i with
      | zero => intro t h0 _; show delI t.vars s j = none; unfold delI; rw [if_neg (Ne.symm hx)]; exact h0
      | succ k ihk =>
        refine (KeepN.step j E).bind (f := stepJ E) (KeepN.bind (f := fun t => seqJ (l.map (execN E)) (setVar t s (IntKind.i32.wrap i))) (fun t h0 h => hb _ ?_ h) (ihk (i + 1)))
        simp only [setVar, updI]
        rw [if_neg (Ne.symm hx)]
        exact h0
  | while_ S n s c nb sb l h1 h2 hc hl ih =>
    intro hS
    rw [funext (exec_while E n s c nb sb l)]
    refine (KeepN.step j E).bind ?_
    have hb : KeepN j (seqJ (l.map (execN E))) := .seq fun m hm => ih m hm hS
    generalize n.toNat = k
    induction k with
    | zero => exact (KeepN.step j E).bind (.if_ (fun s h0 h => h0) (fun s h0 h => h0))
    | succ k ihk => exact (KeepN.step j E).bind (.if_ (hb.bind ihk) (fun s h0 h => h0))
  | inp S n s p h1 h2 hp => intro hS; rw [funext (exec_in E n s p)]; exact (KeepN.step j E).bind (.store (hplace S p hp hS) fun _ => rfl)
  | out S n s e h1 h2 he =>
    intro hS
    rw [funext (exec_out E n s e)]
    refine (KeepN.step j E).bind fun t h0 h => ?_
    unfold outJ at h ⊢
    split
    · exact h0
    · exact h0
  | lock S n s nb sb l h1 h2 hl ih =>
    intro hS
    rw [funext (exec_lock E n s nb sb l)]
    have hS' : (scopeOf S 46 s).scalars j = false := by
      unfold scopeOf
      rw [if_neg (by decide), if_pos rfl]
      exact hS
    exact (KeepN.step j E).bind (.seq fun m hm => ih m hm hS')

/-! ### the unrolled body -/
/-- The rounds of a For statement, one after the other, from round i, k of them. -/
def roundsN (nm : ByteArray) (b : Node) : Nat → Nat → List Node
  | 0, _ => []
  | k + 1, i => (subN nm (i : Int) b).kids ++ roundsN nm b k (i + 1)
def unrollL : List Node → List Node
  | [] => []
  | n :: r => if n.kind = 42 ∧ n.num ≤ 6 then roundsN n.name (kid n.kids 0) n.num.toNat 0 ++ r else n :: unrollL r
theorem rounds_rel {C : Ctx} {E : JE} {S : Scope} {nm : ByteArray} {nb : Int} {sb : ByteArray} {l : List Node} (hl : ∀ m ∈ l, WsS C (scopeOf S 42 nm) m) : ∀ k i s s', Eqx (V2 nm) s s' → RelX V0 (forJ E nm (seqJ (l.map (execN E))) k (i : Nat) s) (seqJ ((roundsN nm (.mk 47 nb sb l) k i).map (execN E)) s') := by
  intro k
  induction k with
  | zero =>
    intro i s s' h
    refine .ok ⟨h.cells, h.out, h.read, ?_⟩
    funext j
    simp only [delI]
    split
    · rename_i e; rw [e]; exact h.vars.2
    · rename_i e; exact h.vars.1 j e
  | succ k ih =>
    intro i s s' h
    rw [roundsN, List.map_append, seqJ_append, forJ]
    have hS' : (scopeOf S 42 nm).loops nm = true := by
      unfold scopeOf
      rw [if_pos rfl]
      simp
    have e : (subN nm (i : Int) (.mk 47 nb sb l)).kids = l.map (subN nm (i : Int)) := by
      rw [subN, if_neg (fun e => absurd e.1 (by decide)), subL_map]; rfl
    rw [e]
    have hst : RelX (V2 nm) (stepJ E s) (s', none) := by
      unfold stepJ
      split
      · exact .inl rfl
      · exact .ok ⟨h.cells, h.out, h.read, h.vars⟩
    have := hst.bind (V' := V0) (f := fun s => bindJ (seqJ (l.map (execN E)) (setVar s nm (IntKind.i32.wrap (i : Int)))) (forJ E nm (seqJ (l.map (execN E))) k ((i : Int) + 1))) (f' := fun s' => bindJ (seqJ ((l.map (subN nm (i : Int))).map (execN E)) s') (seqJ ((roundsN nm (.mk 47 nb sb l) k (i + 1)).map (execN E)))) (fun t t' h => by
      have h1 : Eqx (V1 nm (IntKind.i32.wrap (i : Int))) (setVar t nm (IntKind.i32.wrap (i : Int))) t' := by
        refine ⟨h.cells, h.out, h.read, fun j hj => ?_, ?_, h.vars.2⟩
        · simp only [setVar, updI]; rw [if_neg hj]; exact h.vars.1 j hj
        · simp [setVar, updI]
      refine (seq_rel (fun m hm => sub_exec (hl m hm) hS') h1).bind fun t t' h => ?_
      have := ih (i + 1) t t' ⟨h.cells, h.out, h.read, h.vars.1, h.vars.2.2⟩
      simpa using this)
    exact this
theorem unroll_rel {C : Ctx} {E : JE} {S : Scope} (hcs : ∀ j, C.vars j = false → S.loops j = false → S.scalars j = false) : ∀ (l : List Node), (∀ m ∈ l, WsS C S m) → ∀ s s', (∀ j, S.scalars j = false → s.vars j = none) → Eqx V0 s s' → RelX V0 (seqJ (l.map (execN E)) s) (seqJ ((unrollL l).map (execN E)) s')
  | [], _, s, s', _, h => .ok h
  | n :: r, hw, s, s', hn, h => by
    rw [unrollL]
    split
    · rename_i e
      obtain ⟨e1, e2⟩ := e
      have hw1 := hw n (by simp)
      cases hw1 with
      | assign => exact absurd e1 (show ¬ (40 : Int) = 42 by decide)
      | cond => exact absurd e1 (show ¬ (41 : Int) = 42 by decide)
      | while_ => exact absurd e1 (show ¬ (43 : Int) = 42 by decide)
      | inp => exact absurd e1 (show ¬ (44 : Int) = 42 by decide)
      | out => exact absurd e1 (show ¬ (45 : Int) = 42 by decide)
      | lock => exact absurd e1 (show ¬ (46 : Int) = 42 by decide)
      | count _ num nm nb sb l h1 h2 h3 h4 h5 h6 hl =>
        rw [List.map_append, seqJ_append]
        show RelX V0 (bindJ (execN E _ s) (seqJ (r.map (execN E)))) _
        rw [exec_for]
        refine RelX.bind (V := V0) ?_ (fun t t' h => st_seq E r h)
        have hst : RelX (V2 nm) (stepJ E s) (s', none) := by
          unfold stepJ
          split
          · exact .inl rfl
          · refine .ok ⟨h.cells, h.out, h.read, fun j _ => by rw [h.vars], ?_⟩
            rw [h.vars]
            exact hn nm (hcs nm h3 h6)
        exact hst.bind (f' := seqJ ((roundsN nm (.mk 47 nb sb l) num.toNat 0).map (execN E))) (fun t t' h => rounds_rel hl _ 0 t t' h)
    · show RelX V0 (bindJ (execN E n s) (seqJ (r.map (execN E)))) (bindJ (execN E n s') (seqJ ((unrollL r).map (execN E))))
      have hst := stClosed.exec n E s s' h
      have hk : (execN E n s).2 = none → ∀ j, S.scalars j = false → (execN E n s).1.vars j = none := fun e j hj => keep_exec (hw n (by simp)) hj s (hn j hj) e
      rcases hst with h | h | ⟨h, V2, g1, g2⟩
      · rw [bindJ_some h]; exact .inl rfl
      · rw [bindJ_some h]; exact .inr (.inl rfl)
      · cases e : (execN E n s).2 with
        | none =>
          rw [e] at h
          rw [bindJ_none e, bindJ_none h]
          exact unroll_rel hcs r (fun m hm => hw m (by simp [hm])) _ _ (hk e) (g2 e)
        | some x =>
          rw [e] at h
          rw [bindJ_some e, bindJ_some h]
          exact .inr (.inr ⟨rfl, V2, g1, fun h => by cases h⟩)
/-- The law. -/
theorem Runs.unroll {p : Prg} {t : Int} {m : Mem} (h : Runs p t m) (inp : List Int) (fuel : Int) (num : Int) (nm : ByteArray) (l : List Node) (hb : (tsk p t).body = .mk 47 num nm l)
    (hv : okB (setBody p t.toNat (blockN (unrollL l))) = true) :
    (jobAll p t m inp fuel).err = 13 ∨ (jobAll (setBody p t.toNat (blockN (unrollL l))) t m inp fuel).err = 13 ∨ sameB (jobAll p t m inp fuel) (jobAll (setBody p t.toNat (blockN (unrollL l))) t m inp fuel) false = true := by
  have hq := h.set _ hv
  have ht : t.toNat < p.tasks.length := by have := h.lo; have := h.hi; omega
  obtain ⟨C, hC⟩ := chk_of h.ok (getD_mem0 (d := task0) ht)
  obtain ⟨num', nm', l', e', -, hw⟩ := hC.ws
  have e2 : (tsk p t).body = .mk 47 num' nm' l' := e'
  rw [hb] at e2
  simp only [Node.mk.injEq, true_and] at e2
  obtain ⟨rfl, rfl, rfl⟩ := e2
  rw [hq.run, h.run]
  have e1 : tsk (setBody p t.toNat (blockN (unrollL l))) t = { tsk p t with body := blockN (unrollL l) } := set_task p _ ht
  have hr : RelX V0 (bodyRun p t m inp fuel) (bodyRun (setBody p t.toNat (blockN (unrollL l))) t m inp fuel) := by
    unfold bodyRun
    rw [e1]
    show RelX V0 (execN _ (tsk p t).body _) (execN (jobE (tsk p t) p inp fuel) (blockN (unrollL l)) (job0 (tsk p t) (own m t) m.shared))
    rw [hb, blockN, exec_block, exec_block]
    refine unroll_rel (C := C) (S := ⟨C.vars, noneB, []⟩) (fun j h _ => h) l hw _ _ (fun j hj => ?_) ⟨rfl, rfl, rfl, rfl⟩
    show varsOf (tsk p t).vars j = none
    unfold varsOf
    rw [if_neg]
    intro ha
    obtain ⟨x, hx, e⟩ := List.any_eq_true.1 ha
    rw [of_decide_eq_true e] at hx
    have := (hC.vars j).2 hx
    simp only at hj
    rw [this] at hj
    cases hj
  generalize bodyRun p t m inp fuel = r at *
  generalize bodyRun (setBody p t.toNat (blockN (unrollL l))) t m inp fuel = r' at *
  rcases hr with hr | hr | ⟨hr, V', hx, -⟩
  · exact .inl (jobFin_err.2 hr)
  · exact .inr (.inl (jobFin_err.2 hr))
  · refine .inr (.inr ?_)
    unfold sameB jobFin
    rw [hx.cells, hx.out, hx.read, hr, (eqMem_iff _ _).2 rfl]
    simp
end Go.Proofs.YtgmapenlgammfaaGreatDoor

/- The law's own function replaced: a tree in new memory. -/
namespace Go.Proofs.YtgmapenlgammfaaGreatDoor
open Go
section
attribute [local semireducible] row pt Base
theorem rowN_base' {w0 w : World} {h : Frag} {M M' : List HProp} {E sz b n c : Nat} {xs : List Value} (t : Takes M [row E sz (.slice (some ⟨b, 0, none⟩) n c) n xs] M') (mm : star M h) (sa : Go.Proofs.YtgmapenlgammfaaGreatDoor.Sat w0 w h) : Base w b 0 xs := by
  have := row_has (w0 := w0) t
  unfold HasAt at this
  intro j v hv
  exact this w h mm sa j v hv
theorem row_ptrN' {E sz n : Nat} {u : Value} {xs : List Value} {M M' : List HProp} {h : Frag} (t : Takes M [row E sz u n xs] M') (m : star M h) (hl : 0 < n) : ∃ b c, u = .slice (some ⟨b, 0, none⟩) n c := by
  have tt := t
  unfold Takes at tt
  obtain ⟨h1, h2, l1, l2, dd, ⟨e1, e2, e3⟩, m2⟩ := tt h m
  rcases e3 with ⟨e, e'⟩ | ⟨g, cap, cur, e, _⟩
  · omega
  · exact ⟨g, cap, e⟩
end
/-- The rows of a node's children, over the atoms that hold what is below. -/
structure KidsX (w0 : World) (ks : List Node) (rows : List (List Value)) (X : List HProp) : Prop where
  len : rows.length = ks.length
  cells : ∀ r ∈ rows, r.length = 4 ∧ ∀ u ∈ r, u.oneCell' = true
  each : ∀ w h F, star (X ++ F) h → Sat w0 w h → ∀ (j : Nat) m r, ks[j]? = some m → rows[j]? = some r → NodeR w m r
theorem KidsX.nil (w0 : World) : KidsX w0 [] [] [] := ⟨rfl, (fun r h => by cases h), (fun _ _ _ _ _ j m r h => by simp at h)⟩
theorem KidsX.snoc {w0 : World} {ks : List Node} {rows : List (List Value)} {X N : List HProp} {m : Node} {r : List Value} (k : KidsX w0 ks rows X) (h4 : r.length = 4) (h1 : ∀ u ∈ r, u.oneCell' = true) (hN : ∀ w h F, star (N ++ F) h → Sat w0 w h → NodeR w m r) : KidsX w0 (ks ++ [m]) (rows ++ [r]) (N ++ X) := by
  refine ⟨by simp [k.len], ?_, ?_⟩
  · intro q hq
    rcases List.mem_append.1 hq with hq | hq
    · exact k.cells q hq
    · simp at hq; subst hq; exact ⟨h4, h1⟩
  · intro w h F mm sa j x q e1 e2
    rw [List.append_assoc] at mm
    have hl := k.len
    rcases Nat.lt_or_ge j ks.length with hj | hj
    · rw [List.getElem?_append_left hj] at e1
      rw [List.getElem?_append_left (by omega)] at e2
      exact k.each w h F mm.skip sa j x q e1 e2
    · rw [List.getElem?_append_right hj] at e1
      rw [List.getElem?_append_right (by omega)] at e2
      have h0 : j - ks.length = 0 := by
        rcases Nat.eq_zero_or_pos (j - ks.length) with h | h
        · exact h
        · rw [List.getElem?_eq_none (by simp; omega)] at e1; cases e1
      rw [h0] at e1
      rw [show j - rows.length = 0 by omega] at e2
      simp at e1 e2
      subst e1 e2
      exact hN w h _ mm sa
theorem KidsX.append {w0 : World} {ks ks' : List Node} {rows rows' : List (List Value)} {X N : List HProp} (k : KidsX w0 ks rows X) (k' : KidsX w0 ks' rows' N) : KidsX w0 (ks ++ ks') (rows ++ rows') (N ++ X) := by
  refine ⟨by simp [k.len, k'.len], ?_, ?_⟩
  · intro q hq
    rcases List.mem_append.1 hq with hq | hq
    · exact k.cells q hq
    · exact k'.cells q hq
  · intro w h F mm sa j x q e1 e2
    rw [List.append_assoc] at mm
    have hl := k.len
    rcases Nat.lt_or_ge j ks.length with hj | hj
    · rw [List.getElem?_append_left hj] at e1
      rw [List.getElem?_append_left (by omega)] at e2
      exact k.each w h F mm.skip sa j x q e1 e2
    · rw [List.getElem?_append_right hj] at e1
      rw [List.getElem?_append_right (by omega)] at e2
      rw [show j - rows.length = j - ks.length by omega] at e2
      exact k'.each w h _ mm sa _ x q e1 e2
theorem KidsX.flat {w0 : World} {ks : List Node} {rows : List (List Value)} {X : List HProp} (k : KidsX w0 ks rows X) : rows.flatten.length = ks.length * 4 := by
  rw [flat_len (sz := 4) (fun r hr => (k.cells r hr).1), k.len]
theorem KidsX.one {w0 : World} {ks : List Node} {rows : List (List Value)} {X : List HProp} (k : KidsX w0 ks rows X) : ∀ u ∈ rows.flatten, u.oneCell' = true := fun u hu => by
  obtain ⟨r, hr, hu⟩ := List.mem_flatten.1 hu
  exact (k.cells r hr).2 u hu
/-- A node whose children's row is owned. -/
def nodeV (n : Node) (A : Option Addr) (c : Nat) : List Value := [.int .u8 n.kind, .int .i64 n.num, .string n.name, .slice A n.kids.length c]
def treeM (n : Node) (A : Option Addr) (c : Nat) (rows : List (List Value)) (X : List HProp) : List HProp := row 50 4 (.slice A n.kids.length c) n.kids.length rows.flatten :: X
def TreeV (w0 : World) (n : Node) (v : Value) (N : List HProp) : Prop := ∃ A c rows X, v = .agg (nodeV n A c).toArray ∧ N = treeM n A c rows X ∧ KidsX w0 n.kids rows X
theorem KidsX.node {w0 w : World} {h : Frag} {F : List HProp} {n : Node} {A : Option Addr} {c : Nat} {rows : List (List Value)} {X : List HProp} (k : KidsX w0 n.kids rows X) (mm : star (treeM n A c rows X ++ F) h) (sa : Go.Proofs.YtgmapenlgammfaaGreatDoor.Sat w0 w h) : NodeR w n (nodeV n A c) := by
  unfold treeM at mm
  have hcap := row_cap (Takes.here _ _) mm
  obtain ⟨kd, num, nm, kids⟩ := n
  simp only [Node.kids, nodeV, Node.kind, Node.num, Node.name] at *
  refine NodeR.mk (rows := rows) k.len hcap ?_ (k.each w h F mm.tail sa)
  rcases Nat.eq_zero_or_pos kids.length with h0 | h0
  · intro i r hr
    have := k.len
    rw [List.getElem?_eq_none (by omega)] at hr
    cases hr
  · obtain ⟨b, c', e⟩ := row_ptrN' (Takes.here _ _) mm h0
    simp only [Value.slice.injEq] at e
    obtain ⟨rfl, -, -⟩ := e
    exact rowsB_flat (fun r hr => (k.cells r hr).1) (rowN_base' (Takes.here _ _) mm sa)
theorem nodeV_one (n : Node) (A : Option Addr) (c : Nat) : ∀ u ∈ nodeV n A c, u.oneCell' = true := by
  intro u hu
  simp only [nodeV, List.mem_cons, List.not_mem_nil, or_false] at hu
  rcases hu with rfl | rfl | rfl | rfl <;> rfl
theorem subN_mk {nm s : ByteArray} {i k num : Int} {kids : List Node} (h : ¬(k = 2 ∧ s = nm)) : subN nm i (.mk k num s kids) = .mk k num s (kids.map (subN nm i)) := by
  rw [subN, if_neg h, subL_map]
theorem replaced_spec (w0 : World) (nm : ByteArray) (v : Int) : ∀ (m : Nat) (n : Node) (cs : List Value), n.size ≤ m → n.size ≤ 10000000 → NodeR w0 n cs →
    Spec Tryz.prog w0 34 #[.agg cs.toArray, .string nm, .int .i64 v] [] (Ret (TreeV w0 (subN nm v n)) noP) := by
  intro m
  induction m with
  | zero => intro n cs h; have := n.size_pos; omega
  | succ m ih =>
    intro n cs hm hs hR
    obtain ⟨A, cap, rfl, hcap, hN⟩ := hR.kids
    have hks : ∀ k ∈ n.kids, k.size ≤ m := fun k hk => by have := Node.size_kid hk; omega
    have hkl := n.kids_le
    obtain ⟨kd, num, s, kids⟩ := n
    simp only [Node.kind, Node.num, Node.name, Node.kids] at *
    refine Spec.enter (args := [_, _, _]) Tryz.func34 rfl rfl rfl (fun F => ?_)
    refine kAutoB ?_
    (apply RL.boxR; exact kEv; exact rfl; intro b3)
    (apply RL.alloc; exact rfl; exact rfl; intro b6)
    refine kAutoB ?_
    by_cases hyes : kd = 2 ∧ s = nm
    · obtain ⟨rfl, e⟩ := hyes
      have hsub : subN nm v (.mk 2 num s kids) = .mk 1 v sE [] := by rw [subN, if_pos ⟨rfl, e⟩]
      rw [beq_self_eq_true, hsub]
      refine kAutoB ?_
      rw [decide_eq_true e]
      refine kAutoB ?_
      (apply RL.build (r := .agg #[.int .u8 1, .int .i64 v, .string sE, .slice none 0 0]); exact rfl; exact kEvl; (intro w; kernel_rfl); exact rfl)
      (apply RL.storeA; exact kEv; exact kEv; exact kTake; exact rfl; exact rfl; exact rfl)
      refine kAutoB ?_
      refine XJ.retC rfl rfl (HasAt.pt (Takes.here _ _) atAll) rfl [row 50 4 (.slice none 0 0) 0 []] ?_ ⟨none, 0, [], [], rfl, rfl, KidsX.nil w0⟩
      refine Gives.trans (row_nil 50 4) ?_
      exact Gives.cons (Takes.here _ _) (by (repeat (first | exact Gives.refl _ | apply Gives.drop | apply Gives.skipApp)))
    have hno : ∀ (G : Prop), ((kd == 2) = false → G) → ((kd == 2) = true → decide (s = nm) = false → G) → G := by
      intro G g1 g2
      cases h2 : (kd == 2)
      · exact g1 h2
      · refine g2 h2 (decide_eq_false fun e => hyes ⟨by simpa using h2, e⟩)
    refine hno _ (fun e1 => ?_) (fun e1 e2 => ?_)
    · rw [e1]
      refine kAutoB ?_
      (apply RL.alloc; exact rfl; exact rfl; intro b7)
      (apply RL.storeA; exact kEv; exact kEv; exact kTake; exact rfl; exact rfl; exact rfl)
      refine kAutoB ?_
      (apply RL.store; exact kEv; exact kEv; exact kTake; exact rfl; exact rfl; exact rfl)
      refine kAutoB ?_
      refine CJ.gives (row_nil 50 4) ?_
      refine CJ.loop (σ := Nat × Option Addr × Nat × List (List Value) × List HProp) (fun t => t.1 ≤ kids.length ∧ KidsX w0 ((kids.take t.1).map (subN nm v)) t.2.2.2.1 t.2.2.2.2) (fun t => [(26, .int .i64 (t.1 : Int)), (25, .int .i64 kids.length), (24, .slice A kids.length cap), (7, .pointer (some ⟨b7, 0, none⟩)), (6, .pointer (some ⟨b6, 0, none⟩)), (2, .int .i64 v), (1, .string nm)])
        (fun t => cel b7 50 [.int .u8 kd, .int .i64 num, .string s, .slice t.2.1 t.1 t.2.2.1] :: row 50 4 (.slice t.2.1 t.1 t.2.2.1) t.1 t.2.2.2.1.flatten :: cel b6 50 [.int .u8 0, .int .i64 0, .string ⟨#[]⟩, .slice none 0 0] :: (t.2.2.2.2 ++ F)) (fun t => kids.length - t.1) (0, none, 0, [], []) ⟨Nat.zero_le _, KidsX.nil w0⟩ (by exact kEsub) (by exact kGives) ?_
      rintro ⟨i, Ao, co, rows, X⟩ ⟨hi, hX⟩
      simp only at hi hX
      refine kAutoB ?_
      cases hlt : decide ((i : Int) < (kids.length : Int))
      · have hge : i = kids.length := by have := of_decide_eq_false hlt; omega
        subst hge
        rw [List.take_length] at hX
        refine kAutoB ?_
        (apply RL.storeA; exact kEv; exact kEv; exact kTake; exact rfl; exact rfl; exact rfl)
        refine kAutoB ?_
        have hsub : subN nm v (.mk kd num s kids) = .mk kd num s (kids.map (subN nm v)) := subN_mk hyes
        refine XJ.retC rfl rfl (HasAt.pt (Takes.here _ _) atAll) rfl (treeM (subN nm v (.mk kd num s kids)) Ao co rows X) ?_ ⟨Ao, co, rows, X, ?_, rfl, ?_⟩
        · rw [hsub]
          simp only [treeM, Node.kids, List.length_map]
          exact Gives.drop (Gives.drop (Gives.refl _))
        · rw [hsub]
          simp only [nodeV, Node.kids, Node.kind, Node.num, Node.name, List.length_map]
          rfl
        · rw [hsub]
          exact hX
      have hlt' : i < kids.length := by have := of_decide_eq_true hlt; omega
      obtain ⟨b, o, r, hA, hb, hrl, hr⟩ := hN.at_ i hlt'
      subst hA
      obtain ⟨A0, cap0, hr0, _⟩ := hr.kids
      have hrec := ih kids[i] r (hks _ (List.getElem_mem hlt')) (by have := hks _ (List.getElem_mem hlt'); have := Node.size_mem (List.getElem_mem hlt'); rw [Node.size] at hs; omega) hr
      refine kAutoB ?_
      apply RL.pur; (apply OpP.indexAddr; exact kEv; exact kEv; exact hlt'); exact rfl
      apply RL.pur; (apply OpP.loadA; exact kEv; exact HasAt.base hb; exact hrl); exact rfl
      (apply RL.alloc; exact rfl; exact rfl; intro b9)
      refine kAutoB ?_
      (apply RL.storeW; exact kEv; exact kEv; exact kTake; exact hrl; exact rfl; exact (by rw [hr0]; rfl))
      refine kAutoB ?_
      (refine CJ.draws mixed 8 [cel b7 _ _, cel b9 _ _] (by exact kGives) (dom_of (by kernel_rfl)) ?_)
      ((first | refine kAjB 0 ?_ | refine kAjS 0 ?_); (first | refine kAjB 1 ?_ | refine kAjS 1 ?_); (first | refine kAjB 2 ?_ | refine kAjS 2 ?_); (first | refine kAjB 3 ?_ | refine kAjS 3 ?_); (first | refine kAjB 4 ?_ | refine kAjS 4 ?_))
      (refine AJ.loud1 (i := 5) (by kernel_rfl) (by kernel_rfl) rfl (by kernel_rfl) (by kernel_rfl) rfl rfl rfl rfl rfl rfl (OpS.call (by exact kEv) inferInstance (by exact kEvl) (Takes.nil _) hrec) ?_ ?_)
      rotate_left
      · rintro _ _ ⟨_, h, _⟩; exact h.elim
      rintro _ _ ⟨N, ⟨A1, c1, rows1, X1, rfl, rfl, hX1⟩, rfl⟩
      refine ⟨Gives.skipApp (by exact kGives), ?_⟩
      (refine AJ.loud1 (i := 6) (by kernel_rfl) (by kernel_rfl) rfl (by kernel_rfl) (by kernel_rfl) rfl rfl rfl rfl rfl rfl (OpS.buildSlice (E := 50) (nodeV (subN nm v kids[i]) A1 c1) rfl (by exact kEvl) (fun w => by kernel_rfl)) ?_ ?_)
      rotate_left
      · rintro _ _ h; exact h.elim
      rintro _ _ ⟨b10, rfl, rfl⟩
      refine ⟨Gives.drop (Gives.skipApp (by exact kGives)), ?_⟩
      (refine AJ.loud1 (i := 7) (by kernel_rfl) (by kernel_rfl) rfl (by kernel_rfl) (by kernel_rfl) rfl rfl rfl rfl rfl rfl (OpS.append (m := 1) (news := nodeV (subN nm v kids[i]) A1 c1) (by exact kEv) (by exact kEv) (Takes.there (Takes.appR _ (Takes.there (Takes.there (Takes.here _ _))))) (fun h m => ⟨rfl, nodeV_one _ _ _, .inr ⟨_, _, _, rfl, HasAt.pt (Takes.here _ _) atAll⟩⟩) (by simp only [maxLen]; omega) (by omega)) ?_ ?_)
      rotate_left
      · rintro _ _ h; exact h.elim
      rintro _ _ ⟨⟨A10, c10, rfl⟩, rfl⟩
      refine ⟨Gives.drop (Gives.drop (Gives.skipApp (by exact kGives))), ?_⟩
      (refine AJ.tail (by kernel_rfl) (by kernel_rfl) rfl (by kernel_rfl) (by kernel_rfl) (by kernel_rfl) ?_)
      refine RL.gives (M' := cel b7 50 [.int .u8 kd, .int .i64 num, .string s, .slice Ao i co] :: row 50 4 (.slice A10 (i + 1) c10) (i + 1) (rows ++ [nodeV (subN nm v kids[i]) A1 c1]).flatten :: cel b6 50 [.int .u8 0, .int .i64 0, .string ⟨#[]⟩, .slice none 0 0] :: ((treeM (subN nm v kids[i]) A1 c1 rows1 X1 ++ X) ++ F)) ?_ ?_
      · rw [List.flatten_append, List.append_assoc]
        simp only [List.flatten_cons, List.flatten_nil, List.append_nil]
        exact Gives.cons (Takes.there (Takes.there (Takes.appR _ (Takes.there (Takes.here _ _))))) (Gives.cons (Takes.here _ _) (Gives.cons (Takes.there (Takes.appR _ (Takes.there (Takes.here _ _)))) (Gives.drop (Takes.drop2 _ _ _))))
      refine kAutoB ?_
      (apply RL.store; exact kEv; exact kEv; exact Takes.here _ _; exact rfl; exact rfl; exact rfl)
      refine kAutoB ?_
      rw [i64_succ i (by omega)]
      refine XJ.round (i + 1, A10, c10, rows ++ [nodeV (subN nm v kids[i]) A1 c1], treeM (subN nm v kids[i]) A1 c1 rows1 X1 ++ X) ⟨by simp only; omega, ?_⟩ (by simp only; omega) (by exact kEsub) (by exact kGives)
      simp only
      rw [List.take_succ_eq_append_getElem hlt', List.map_append]
      exact hX.snoc rfl (nodeV_one _ _ _) (fun w h F mm sa => hX1.node mm sa)
    · rw [e1]
      refine kAutoB ?_
      rw [e2]
      refine kAutoB ?_
      (apply RL.alloc; exact rfl; exact rfl; intro b7)
      (apply RL.storeA; exact kEv; exact kEv; exact kTake; exact rfl; exact rfl; exact rfl)
      refine kAutoB ?_
      (apply RL.store; exact kEv; exact kEv; exact kTake; exact rfl; exact rfl; exact rfl)
      refine kAutoB ?_
      refine CJ.gives (row_nil 50 4) ?_
      refine CJ.loop (σ := Nat × Option Addr × Nat × List (List Value) × List HProp) (fun t => t.1 ≤ kids.length ∧ KidsX w0 ((kids.take t.1).map (subN nm v)) t.2.2.2.1 t.2.2.2.2) (fun t => [(26, .int .i64 (t.1 : Int)), (25, .int .i64 kids.length), (24, .slice A kids.length cap), (7, .pointer (some ⟨b7, 0, none⟩)), (6, .pointer (some ⟨b6, 0, none⟩)), (2, .int .i64 v), (1, .string nm)])
        (fun t => cel b7 50 [.int .u8 kd, .int .i64 num, .string s, .slice t.2.1 t.1 t.2.2.1] :: row 50 4 (.slice t.2.1 t.1 t.2.2.1) t.1 t.2.2.2.1.flatten :: cel b6 50 [.int .u8 0, .int .i64 0, .string ⟨#[]⟩, .slice none 0 0] :: (t.2.2.2.2 ++ F)) (fun t => kids.length - t.1) (0, none, 0, [], []) ⟨Nat.zero_le _, KidsX.nil w0⟩ (by exact kEsub) (by exact kGives) ?_
      rintro ⟨i, Ao, co, rows, X⟩ ⟨hi, hX⟩
      simp only at hi hX
      refine kAutoB ?_
      cases hlt : decide ((i : Int) < (kids.length : Int))
      · have hge : i = kids.length := by have := of_decide_eq_false hlt; omega
        subst hge
        rw [List.take_length] at hX
        refine kAutoB ?_
        (apply RL.storeA; exact kEv; exact kEv; exact kTake; exact rfl; exact rfl; exact rfl)
        refine kAutoB ?_
        have hsub : subN nm v (.mk kd num s kids) = .mk kd num s (kids.map (subN nm v)) := subN_mk hyes
        refine XJ.retC rfl rfl (HasAt.pt (Takes.here _ _) atAll) rfl (treeM (subN nm v (.mk kd num s kids)) Ao co rows X) ?_ ⟨Ao, co, rows, X, ?_, rfl, ?_⟩
        · rw [hsub]
          simp only [treeM, Node.kids, List.length_map]
          exact Gives.drop (Gives.drop (Gives.refl _))
        · rw [hsub]
          simp only [nodeV, Node.kids, Node.kind, Node.num, Node.name, List.length_map]
          rfl
        · rw [hsub]
          exact hX
      have hlt' : i < kids.length := by have := of_decide_eq_true hlt; omega
      obtain ⟨b, o, r, hA, hb, hrl, hr⟩ := hN.at_ i hlt'
      subst hA
      obtain ⟨A0, cap0, hr0, _⟩ := hr.kids
      have hrec := ih kids[i] r (hks _ (List.getElem_mem hlt')) (by have := hks _ (List.getElem_mem hlt'); have := Node.size_mem (List.getElem_mem hlt'); rw [Node.size] at hs; omega) hr
      refine kAutoB ?_
      apply RL.pur; (apply OpP.indexAddr; exact kEv; exact kEv; exact hlt'); exact rfl
      apply RL.pur; (apply OpP.loadA; exact kEv; exact HasAt.base hb; exact hrl); exact rfl
      (apply RL.alloc; exact rfl; exact rfl; intro b9)
      refine kAutoB ?_
      (apply RL.storeW; exact kEv; exact kEv; exact kTake; exact hrl; exact rfl; exact (by rw [hr0]; rfl))
      refine kAutoB ?_
      (refine CJ.draws mixed 8 [cel b7 _ _, cel b9 _ _] (by exact kGives) (dom_of (by kernel_rfl)) ?_)
      ((first | refine kAjB 0 ?_ | refine kAjS 0 ?_); (first | refine kAjB 1 ?_ | refine kAjS 1 ?_); (first | refine kAjB 2 ?_ | refine kAjS 2 ?_); (first | refine kAjB 3 ?_ | refine kAjS 3 ?_); (first | refine kAjB 4 ?_ | refine kAjS 4 ?_))
      (refine AJ.loud1 (i := 5) (by kernel_rfl) (by kernel_rfl) rfl (by kernel_rfl) (by kernel_rfl) rfl rfl rfl rfl rfl rfl (OpS.call (by exact kEv) inferInstance (by exact kEvl) (Takes.nil _) hrec) ?_ ?_)
      rotate_left
      · rintro _ _ ⟨_, h, _⟩; exact h.elim
      rintro _ _ ⟨N, ⟨A1, c1, rows1, X1, rfl, rfl, hX1⟩, rfl⟩
      refine ⟨Gives.skipApp (by exact kGives), ?_⟩
      (refine AJ.loud1 (i := 6) (by kernel_rfl) (by kernel_rfl) rfl (by kernel_rfl) (by kernel_rfl) rfl rfl rfl rfl rfl rfl (OpS.buildSlice (E := 50) (nodeV (subN nm v kids[i]) A1 c1) rfl (by exact kEvl) (fun w => by kernel_rfl)) ?_ ?_)
      rotate_left
      · rintro _ _ h; exact h.elim
      rintro _ _ ⟨b10, rfl, rfl⟩
      refine ⟨Gives.drop (Gives.skipApp (by exact kGives)), ?_⟩
      (refine AJ.loud1 (i := 7) (by kernel_rfl) (by kernel_rfl) rfl (by kernel_rfl) (by kernel_rfl) rfl rfl rfl rfl rfl rfl (OpS.append (m := 1) (news := nodeV (subN nm v kids[i]) A1 c1) (by exact kEv) (by exact kEv) (Takes.there (Takes.appR _ (Takes.there (Takes.there (Takes.here _ _))))) (fun h m => ⟨rfl, nodeV_one _ _ _, .inr ⟨_, _, _, rfl, HasAt.pt (Takes.here _ _) atAll⟩⟩) (by simp only [maxLen]; omega) (by omega)) ?_ ?_)
      rotate_left
      · rintro _ _ h; exact h.elim
      rintro _ _ ⟨⟨A10, c10, rfl⟩, rfl⟩
      refine ⟨Gives.drop (Gives.drop (Gives.skipApp (by exact kGives))), ?_⟩
      (refine AJ.tail (by kernel_rfl) (by kernel_rfl) rfl (by kernel_rfl) (by kernel_rfl) (by kernel_rfl) ?_)
      refine RL.gives (M' := cel b7 50 [.int .u8 kd, .int .i64 num, .string s, .slice Ao i co] :: row 50 4 (.slice A10 (i + 1) c10) (i + 1) (rows ++ [nodeV (subN nm v kids[i]) A1 c1]).flatten :: cel b6 50 [.int .u8 0, .int .i64 0, .string ⟨#[]⟩, .slice none 0 0] :: ((treeM (subN nm v kids[i]) A1 c1 rows1 X1 ++ X) ++ F)) ?_ ?_
      · rw [List.flatten_append, List.append_assoc]
        simp only [List.flatten_cons, List.flatten_nil, List.append_nil]
        exact Gives.cons (Takes.there (Takes.there (Takes.appR _ (Takes.there (Takes.here _ _))))) (Gives.cons (Takes.here _ _) (Gives.cons (Takes.there (Takes.appR _ (Takes.there (Takes.here _ _)))) (Gives.drop (Takes.drop2 _ _ _))))
      refine kAutoB ?_
      (apply RL.store; exact kEv; exact kEv; exact Takes.here _ _; exact rfl; exact rfl; exact rfl)
      refine kAutoB ?_
      rw [i64_succ i (by omega)]
      refine XJ.round (i + 1, A10, c10, rows ++ [nodeV (subN nm v kids[i]) A1 c1], treeM (subN nm v kids[i]) A1 c1 rows1 X1 ++ X) ⟨by simp only; omega, ?_⟩ (by simp only; omega) (by exact kEsub) (by exact kGives)
      simp only
      rw [List.take_succ_eq_append_getElem hlt', List.map_append]
      exact hX.snoc rfl (nodeV_one _ _ _) (fun w h F mm sa => hX1.node mm sa)
end Go.Proofs.YtgmapenlgammfaaGreatDoor
