/- Maps over the separation logic: keys that are strings or whole numbers; look-up, store, delete, make. -/
import Derived.Test.YtgmapenlgammfaaGreatDoorAny
set_option linter.all false
namespace Go.Proofs.YtgmapenlgammfaaGreatDoor
open Go Go.RowKit
attribute [local semireducible] Takes Gives Ev XJ CJ RL Spec pt ro OpP OpS HasAt

/-- The keys of a map: values enc k. -/
class KeyT (P : Program) (K : TypeId) (κ : outParam Type) [DecidableEq κ] (enc : outParam (κ → Value)) : Prop where
  und : ∃ d, P.underlying K = some d ∧ (∀ a b, Instr.sameNow d (enc a) (enc b) = some (decide (a = b)))
  check : ∀ e k w, (Instr.checkKey e 10000 K (enc k)).run P w = .ok () w
  bits : ∀ k, Instr.sameBits 10000 (enc k) (enc k) = true
theorem ba_beq (a b : ByteArray) : (a == b) = decide (a = b) := by
  cases a with | mk a => cases b with | mk b =>
  show (a == b) = _
  rw [Bool.eq_iff_iff]
  simp
theorem run_checkKey {P : Program} {K : TypeId} {d : TypeDesc} (h : P.underlying K = some d) (hd : ∀ ms, d ≠ .interface ms) (hd2 : ∀ n e, d ≠ .array n e) (hd3 : ∀ f, d ≠ .struct f) (e : Bool) (v : Value) (n : Nat) (w : World) : (Instr.checkKey e (n + 1) K v).run P w = .ok () w := by
  unfold Instr.checkKey
  simp only [Sem.run_bind, run_und h, Result.andThen_ok]
  cases d <;> first | exact absurd rfl (hd _) | exact absurd rfl (hd2 _ _) | exact absurd rfl (hd3 _) | rfl
theorem KeyT.string {P : Program} {K : TypeId} (h : P.underlying K = some .string) : KeyT P K ByteArray Value.string where
  und := ⟨_, h, fun a b => by simp [Instr.sameNow, ba_beq]⟩
  check := fun e k w => run_checkKey h (fun _ => by simp) (fun _ _ => by simp) (fun _ => by simp) e _ 9999 w
  bits := fun k => by simp [Instr.sameBits, ba_beq]
theorem KeyT.int {P : Program} {K : TypeId} {q : IntKind} (h : P.underlying K = some (.int q)) : KeyT P K Int (Value.int q) where
  und := ⟨_, h, fun a b => by simp only [Instr.sameNow, if_true]; congr 1⟩
  check := fun e k w => run_checkKey h (fun _ => by simp) (fun _ _ => by simp) (fun _ => by simp) e _ 9999 w
  bits := fun k => by simp [Instr.sameBits]

section
variable {κ : Type} [DecidableEq κ] {enc : κ → Value}
def lk (kvs : List (κ × Value)) (k : κ) : Option Value := match kvs with
  | [] => none
  | (a, v) :: r => if k = a then some v else lk r k
def upd (m : κ → Option Value) (k : κ) (v : Value) : κ → Option Value := fun j => if j = k then some v else m j
def del (m : κ → Option Value) (k : κ) : κ → Option Value := fun j => if j = k then none else m j
def MapIs (enc : κ → Value) (es : Array MapEntry) (m : κ → Option Value) : Prop :=
  ∃ kvs : List (κ × Value), es.toList.map (fun e => (e.key, e.val)) = kvs.map (fun p => (enc p.1, p.2)) ∧ (kvs.map (·.1)).Nodup ∧ m = lk kvs
def mp (enc : κ → Value) (r : Nat) (m : κ → Option Value) : HProp := fun h => ∃ es clk, h r = some (.rw (.map es clk)) ∧ MapIs enc es m
def rmp (enc : κ → Value) (r : Nat) (m : κ → Option Value) : HProp := fun h => ∃ es clk, h r = some (.ro (.map es clk)) ∧ MapIs enc es m

theorem find_spec {d : TypeDesc} (hs : ∀ a b, Instr.sameNow d (enc a) (enc b) = some (decide (a = b))) (k : κ) : ∀ (es : List MapEntry) (kvs : List (κ × Value)) (i : Nat), es.map (fun e => (e.key, e.val)) = kvs.map (fun p => (enc p.1, p.2)) →
    (lk kvs k = none → Instr.findNow d (enc k) es i = some none) ∧
    (∀ v, lk kvs k = some v → ∃ j, Instr.findNow d (enc k) es i = some (some (i + j, v)) ∧ j < kvs.length ∧ (kvs.map (·.1))[j]? = some k) := by
  intro es
  induction es with
  | nil =>
    intro kvs i e
    cases kvs with
    | nil => exact ⟨fun _ => rfl, fun v h => by simp [lk] at h⟩
    | cons p r => simp at e
  | cons x es ih =>
    intro kvs i e
    cases kvs with
    | nil => simp at e
    | cons p r =>
      obtain ⟨a, v⟩ := p
      simp only [List.map_cons, List.cons.injEq, Prod.mk.injEq] at e
      obtain ⟨⟨e1, e2⟩, e3⟩ := e
      obtain ⟨h1, h2⟩ := ih r (i + 1) e3
      unfold lk
      by_cases hk : k = a
      · subst hk
        simp only [if_true]
        refine ⟨fun h => (by cases h), fun u hu => ?_⟩
        injection hu with hu
        subst hu
        refine ⟨0, ?_, by simp, by simp⟩
        unfold Instr.findNow
        rw [e1, hs]
        simp [e2]
      · simp only [if_neg hk]
        have hf : ∀ i, Instr.findNow d (enc k) (x :: es) i = Instr.findNow d (enc k) es (i + 1) := by
          intro i
          conv => lhs; unfold Instr.findNow
          rw [e1, hs]
          simp [hk]
        refine ⟨fun h => by rw [hf]; exact h1 h, fun u hu => ?_⟩
        obtain ⟨j, h3, h4, h5⟩ := h2 u hu
        refine ⟨j + 1, by rw [hf, h3]; congr 3; omega, by simp; omega, by simpa using h5⟩

theorem lk_push (kvs : List (κ × Value)) (k : κ) (v : Value) (h : lk kvs k = none) : lk (kvs ++ [(k, v)]) = upd (lk kvs) k v := by
  funext j
  induction kvs with
  | nil => simp [lk, upd]
  | cons p r ih =>
    obtain ⟨a, u⟩ := p
    simp only [lk] at h
    by_cases hk : k = a
    · simp [hk] at h
    · rw [if_neg hk] at h
      have := ih h
      simp only [List.cons_append, lk, upd] at this ⊢
      by_cases hj : j = a
      · subst hj; simp [Ne.symm hk]
      · simp [hj, this]
theorem lk_set : ∀ (kvs : List (κ × Value)) (k : κ) (v : Value) (i : Nat), (kvs.map (·.1)).Nodup → (kvs.map (·.1))[i]? = some k → lk (kvs.modify i (fun p => (p.1, v))) = upd (lk kvs) k v := by
  intro kvs
  induction kvs with
  | nil => intro k v i _ h; simp at h
  | cons p r ih =>
    intro k v i hn h
    obtain ⟨a, u⟩ := p
    funext j
    cases i with
    | zero =>
      simp at h
      subst h
      simp only [List.modify_zero_cons, lk, upd]
      by_cases hj : j = a
      · simp [hj]
      · simp [hj]
    | succ i =>
      simp only [List.map_cons, List.nodup_cons] at hn
      simp at h
      have := congrFun (ih k v i hn.2 (by simpa using h)) j
      simp only [List.modify_succ_cons, lk, upd] at this ⊢
      by_cases hj : j = a
      · subst hj
        have hne : j ≠ k := by
          intro e
          subst e
          apply hn.1
          obtain ⟨x, hx⟩ := h
          exact List.mem_map.2 ⟨(j, x), List.mem_of_getElem? hx, rfl⟩
        simp [hne]
      · simp [hj, this]
theorem lk_del : ∀ (kvs : List (κ × Value)) (k : κ) (i : Nat), (kvs.map (·.1)).Nodup → (kvs.map (·.1))[i]? = some k → lk (kvs.eraseIdx i) = del (lk kvs) k := by
  intro kvs
  induction kvs with
  | nil => intro k i _ h; simp at h
  | cons p r ih =>
    intro k i hn h
    obtain ⟨a, u⟩ := p
    simp only [List.map_cons, List.nodup_cons] at hn
    funext j
    cases i with
    | zero =>
      simp at h
      subst h
      simp only [List.eraseIdx_zero, List.tail_cons, lk, del]
      by_cases hj : j = a
      · subst hj
        simp only [if_true]
        have : ∀ l : List (κ × Value), j ∉ l.map (·.1) → lk l j = none := by
          intro l
          induction l with
          | nil => intro _; rfl
          | cons q l ihl =>
            intro hq
            obtain ⟨b, z⟩ := q
            simp only [List.map_cons, List.mem_cons, not_or] at hq
            simp [lk, hq.1, ihl hq.2]
        exact this r hn.1
      · simp [hj]
    | succ i =>
      simp at h
      have := congrFun (ih k i hn.2 (by simpa using h)) j
      simp only [List.eraseIdx_cons_succ, lk, del] at this ⊢
      by_cases hj : j = a
      · subst hj
        have hne : j ≠ k := by
          intro e
          subst e
          apply hn.1
          obtain ⟨x, hx⟩ := h
          exact List.mem_map.2 ⟨(j, x), List.mem_of_getElem? hx, rfl⟩
        simp [hne]
      · simp [hj, this]
theorem map_eraseIdx' {α β : Type} (f : α → β) : ∀ (l : List α) (i : Nat), (l.eraseIdx i).map f = (l.map f).eraseIdx i
  | [], i => by simp
  | x :: l, 0 => by simp
  | x :: l, i + 1 => by simp [map_eraseIdx' f l i]
theorem lk_none_mem : ∀ (kvs : List (κ × Value)) (k : κ), lk kvs k = none → k ∉ kvs.map (·.1) := by
  intro kvs
  induction kvs with
  | nil => intro k _; simp
  | cons p r ih =>
    intro k h
    obtain ⟨a, u⟩ := p
    simp only [lk] at h
    by_cases hk : k = a
    · simp [hk] at h
    · rw [if_neg hk] at h
      simp [hk, ih k h]
theorem MapIs.empty : MapIs enc #[] (fun _ => none) := ⟨[], rfl, by simp, rfl⟩
end

section
variable {P : Program} {w0 : World} {L : Env} {M : List HProp} {d : Option Tmp} {T : TypeId} {p : String} {af : Array Edge} {g : Option (Nat × Bool)}
variable {κ : Type} [DecidableEq κ] {enc : κ → Value}

/-- A map that is there to be read. -/
def HasMap (w0 : World) (M : List HProp) (enc : κ → Value) (r : Nat) (m : κ → Option Value) : Prop := ∀ w h, star M h → Sat w0 w h → ∃ es clk, w.heap[r]? = some (.map es clk) ∧ MapIs enc es m
theorem HasMap.mp {r : Nat} {m : κ → Option Value} {M' : List HProp} (t : Takes M [Go.Proofs.YtgmapenlgammfaaGreatDoor.mp enc r m] M') : HasMap w0 M enc r m := fun w h mm s => by
  obtain ⟨h1, h2, l1, l2, dd, ⟨es, clk, a, mi⟩, m2⟩ := t h mm
  exact ⟨es, clk, (s.own r _ (l1 r _ a)).2, mi⟩
theorem HasMap.rmp {r : Nat} {m : κ → Option Value} {M' : List HProp} (t : Takes M [Go.Proofs.YtgmapenlgammfaaGreatDoor.rmp enc r m] M') : HasMap w0 M enc r m := fun w h mm s => by
  obtain ⟨h1, h2, l1, l2, dd, ⟨es, clk, a, mi⟩, m2⟩ := t h mm
  exact ⟨es, clk, (s.own r _ (l1 r _ a)).2, mi⟩
theorem run_findKey {K : TypeId} [k : KeyT P K κ enc] {es : Array MapEntry} {m : κ → Option Value} (mi : MapIs enc es m) (x : κ) (w : World) :
    (m x = none ∧ (Instr.findKey K (enc x) es.toList).run P w = .ok none w) ∨ (∃ v j kvs, m x = some v ∧ (Instr.findKey K (enc x) es.toList).run P w = .ok (some (j, v)) w ∧ es.toList.map (fun e => (e.key, e.val)) = kvs.map (fun p => (enc p.1, p.2)) ∧ (kvs.map (·.1)).Nodup ∧ m = lk kvs ∧ (kvs.map (·.1))[j]? = some x) := by
  obtain ⟨dd, hd, hs⟩ := k.und
  obtain ⟨kvs, e, hn, rfl⟩ := mi
  obtain ⟨h1, h2⟩ := find_spec hs x es.toList kvs 0 e
  cases hx : lk kvs x with
  | none =>
    refine .inl ⟨rfl, ?_⟩
    simp [Instr.findKey, run_und hd, h1 hx]
  | some v =>
    obtain ⟨j, h3, h4, h5⟩ := h2 v hx
    refine .inr ⟨v, j, kvs, rfl, ?_, e, hn, rfl, h5⟩
    simp [Instr.findKey, run_und hd, h3]
theorem run_lookup {t : TypeId} {K E : Nat} {z : Value} [q : MapT P t K E] [k : KeyT P K κ enc] [zz : ZeroT P E z] {r : Nat} {m : κ → Option Value} {w : World} {es : Array MapEntry} {clk : Nat} (hh : w.heap[r]? = some (.map es clk)) (mi : MapIs enc es m) (x : κ) (ok : Bool) :
    (Instr.lookup t (.map (some r)) (enc x) ok).run P w = .ok (if ok then .tuple #[(m x).getD z, .bool (m x).isSome] else (m x).getD z) w := by
  have hg : (getObj r).run P w = .ok (.map es clk) w := by simp [getObj, Sem.run, hh]
  rcases run_findKey (P := P) (K := K) mi x w with ⟨h1, h2⟩ | ⟨v, j, kvs, h1, h2, _⟩
  · simp only [Instr.lookup, Sem.run_bind, run_und q.und, Result.andThen_ok, hg, Sem.run_pure, k.check, h2, h1, zz.run]
    cases ok <;> rfl
  · simp only [Instr.lookup, Sem.run_bind, run_und q.und, Result.andThen_ok, hg, Sem.run_pure, k.check, h2, h1]
    cases ok <;> rfl
theorem OpP.lookupOk {t : TypeId} {K E : Nat} {z : Value} {x i : Operand} [q : MapT P t K E] [k : KeyT P K κ enc] [zz : ZeroT P E z] {r : Nat} {m : κ → Option Value} {y : κ} (hx : Ev L x (.map (some r))) (hi : Ev L i (enc y)) (hm : HasMap w0 M enc r m) :
    OpP P w0 L M ⟨d, .lookup t x i true, T, p, af, g⟩ (.tuple #[(m y).getD z, .bool (m y).isSome]) := fun n a w h s mm sa => by
  obtain ⟨es, clk, hh, mi⟩ := hm w h mm sa
  have e := run_lookup (P := P) (t := t) hh mi y true
  simp only [execOp, hx n a s, hi n a s, Sem.run_bind, e, Result.andThen_ok, Sem.run_pure, if_true]
theorem OpP.lookup {t : TypeId} {K E : Nat} {z : Value} {x i : Operand} [q : MapT P t K E] [k : KeyT P K κ enc] [zz : ZeroT P E z] {r : Nat} {m : κ → Option Value} {y : κ} (hx : Ev L x (.map (some r))) (hi : Ev L i (enc y)) (hm : HasMap w0 M enc r m) :
    OpP P w0 L M ⟨d, .lookup t x i false, T, p, af, g⟩ ((m y).getD z) := fun n a w h s mm sa => by
  obtain ⟨es, clk, hh, mi⟩ := hm w h mm sa
  have e := run_lookup (P := P) (t := t) hh mi y false
  simp only [execOp, hx n a s, hi n a s, Sem.run_bind, e, Result.andThen_ok, Sem.run_pure, Bool.false_eq_true, if_false]

theorem sat_mapPut {w : World} {h : Frag} {r : Nat} {m m' : κ → Option Value} {M' : List HProp} {es' : Array MapEntry} {clk' : Nat} (sa : Sat w0 w h) (t : star (mp enc r m :: M') h) (mi' : MapIs enc es' m') :
    ∃ h', star (mp enc r m' :: M') h' ∧ Sat w0 { w with heap := w.heap.setIfInBounds r (.map es' clk') } h' := by
  obtain ⟨h1, h2, l1, l2, dd, ⟨es, clk, a, mi⟩, m2⟩ := t
  have t' : star (pt r (.map es clk) :: M') h := ⟨h1, h2, l1, l2, dd, a, m2⟩
  have hlt := sa.lt (l1 r _ a)
  obtain ⟨h', t2, s2⟩ := sa.put (o' := .map es' clk') (w' := { w with heap := w.heap.setIfInBounds r (.map es' clk') }) t' rfl rfl rfl (by simp) (fun i hi => by simp [Array.getElem?_setIfInBounds_ne (Ne.symm hi)]) (by simp [hlt])
  obtain ⟨h3, h4, l3, l4, d3, a3, m4⟩ := t2
  exact ⟨h', ⟨h3, h4, l3, l4, d3, ⟨es', clk', a3, mi'⟩, m4⟩, s2⟩
theorem OpS.mapUpdate {t : TypeId} {K E : Nat} {x i y : Operand} [q : MapT P t K E] [k : KeyT P K κ enc] {r : Nat} {m : κ → Option Value} {c : κ} {v : Value} {M' : List HProp} (hx : Ev L x (.map (some r))) (hi : Ev L i (enc c)) (hy : Ev L y v) (hm : Takes M [mp enc r m] M') :
    OpS P w0 L M ⟨d, .mapUpdate t x i y, T, p, af, g⟩ (fun _ N => N = mp enc r (upd m c v) :: M') noP := fun n a w h s mm sa => by
  have tk := hm h mm
  obtain ⟨h1, h2, l1, l2, dd, ⟨es, clk, ha, mi⟩, m2⟩ := id tk
  have hh := (sa.own r _ (l1 r _ ha)).2
  have hg : (getObj r).run P w = .ok (.map es clk) w := by
    have : w.heap[r]? = some (.map es clk) := hh
    simp [getObj, Sem.run, this]
  have hset : ∀ es' clk', (setObj r (.map es' clk')).run P w = .ok () { w with heap := w.heap.setIfInBounds r (.map es' clk') } := by
    intro es' clk'
    have : w.heap[r]? = some (.map es clk) := hh
    simp [setObj, Sem.run, this]
  rcases run_findKey (P := P) (K := K) mi c w with ⟨e1, e2⟩ | ⟨u, j, kvs, e1, e2, e3, e4, e5, e6⟩
  · have mi' : MapIs enc (es.push { key := enc c, val := v, born := clk }) (upd m c v) := by
      obtain ⟨kvs, f1, f2, rfl⟩ := mi
      refine ⟨kvs ++ [(c, v)], by simp [f1], ?_, (lk_push kvs c v e1).symm⟩
      rw [List.map_append, List.nodup_append]
      refine ⟨f2, by simp, ?_⟩
      intro a ha b hb
      simp at hb
      subst hb
      intro e
      subst e
      exact lk_none_mem kvs _ e1 ha
    obtain ⟨h', t', s'⟩ := sat_mapPut (clk' := clk + 1) sa tk mi'
    simp only [execOp, hx n a s, hi n a s, hy n a s, Instr.mapUpdate, Sem.run_bind, run_und q.und, Result.andThen_ok, hg, k.check, e2, hset, Sem.run_pure, ResS]
    exact ⟨_, h', rfl, t', s'⟩
  · have hlen : kvs.length = es.size := by have := congrArg List.length e3; simpa using this.symm
    have hjl : j < es.size := by
      rcases Nat.lt_or_ge j kvs.length with x | x
      · omega
      · rw [List.getElem?_eq_none (by simpa using x)] at e6; cases e6
    have hkey : ((es[j]?).map (·.key)).getD (enc c) = enc c := by
      have h3 := congrArg (fun l => l[j]?) e3
      simp only [List.getElem?_map] at h3
      rw [List.getElem?_map] at e6
      cases hk : kvs[j]? with
      | none => rw [hk] at e6; cases e6
      | some pp =>
        rw [hk] at e6 h3
        simp at e6
        have he : es.toList[j]? = es[j]? := by simp
        rw [he] at h3
        cases hj : es[j]? with
        | none => simp
        | some en => rw [hj] at h3; simp at h3; simp [h3.1, e6]
    have mi' : MapIs enc (es.modify j fun e => { e with key := enc c, val := v }) (upd m c v) := by
      refine ⟨kvs.modify j (fun p => (p.1, v)), ?_, ?_, ?_⟩
      · apply List.ext_getElem?
        intro b
        have h3 := congrArg (fun l => l[b]?) e3
        simp only [List.getElem?_map] at h3 ⊢
        rw [Array.getElem?_toList] at h3 ⊢
        rw [Array.getElem?_modify, List.getElem?_modify]
        by_cases hb : j = b
        · subst hb
          rw [List.getElem?_map] at e6
          cases hk : kvs[j]? with
          | none => rw [hk] at e6; cases e6
          | some pp =>
            rw [hk] at e6 h3
            simp at e6
            cases hj : es[j]? with
            | none => rw [hj] at h3; simp at h3
            | some en => simp [e6]
        · simp only [hb, if_false]
          cases hk : kvs[b]? with
          | none => rw [hk] at h3; simpa using h3
          | some pp => rw [hk] at h3; simpa using h3
      · have : (kvs.modify j (fun p => (p.1, v))).map (·.1) = kvs.map (·.1) := by
          apply List.ext_getElem?
          intro b
          simp only [List.getElem?_map, List.getElem?_modify]
          by_cases hb : j = b
          · subst hb; cases kvs[j]? <;> simp
          · simp [hb]
        rw [this]; exact e4
      · rw [e5]; exact (lk_set kvs c v j e4 e6).symm
    obtain ⟨h', t', s'⟩ := sat_mapPut (clk' := clk) sa tk mi'
    have hstay : (Instr.keyThatStays (((es[j]?).map (·.key)).getD (enc c)) (enc c)).run P w = .ok (enc c) w := by
      rw [hkey]
      simp [Instr.keyThatStays, k.bits]
    simp only [execOp, hx n a s, hi n a s, hy n a s, Instr.mapUpdate, Sem.run_bind, run_und q.und, Result.andThen_ok, hg, k.check, e2, hstay, hset, Sem.run_pure, ResS]
    exact ⟨_, h', rfl, t', s'⟩
theorem OpS.insert {t : TypeId} {K E : Nat} {x i y : Operand} [q : MapT P t K E] [k : KeyT P K κ enc] {r : Nat} {m : κ → Option Value} {c : κ} {v : Value} {M' : List HProp} (hx : Ev L x (.map (some r))) (hi : Ev L i (enc c)) (hy : Ev L y v) (hm : Takes M [mp enc r m] M') :
    OpS P w0 L M ⟨d, .insert t x i y, T, p, af, g⟩ (fun _ N => N = mp enc r (upd m c v) :: M') noP := fun n a w h s mm sa => OpS.mapUpdate (T := T) (p := p) (af := af) (g := g) (d := d) hx hi hy hm n a w h s mm sa
theorem OpS.delete {ts : List TypeId} {t : TypeId} {K E : Nat} {x i : Operand} {r : Nat} {m : κ → Option Value} {c : κ} {M' : List HProp} [q : MapT P t K E] [k : KeyT P K κ enc] (hx : Ev L x (.map (some r))) (hi : Ev L i (enc c)) (hm : Takes M [mp enc r m] M') :
    OpS P w0 L M ⟨d, .call { callee := .builtin .delete, args := #[x, i], argTypes := (t :: ts).toArray }, T, p, af, g⟩ (fun _ N => N = mp enc r (del m c) :: M') noP := fun n a w h s mm sa => by
  have tk := hm h mm
  obtain ⟨h1, h2, l1, l2, dd, ⟨es, clk, ha, mi⟩, m2⟩ := id tk
  have hh := (sa.own r _ (l1 r _ ha)).2
  have hg : (getObj r).run P w = .ok (.map es clk) w := by
    have : w.heap[r]? = some (.map es clk) := hh
    simp [getObj, Sem.run, this]
  have hset : ∀ es' clk', (setObj r (.map es' clk')).run P w = .ok () { w with heap := w.heap.setIfInBounds r (.map es' clk') } := by
    intro es' clk'
    have : w.heap[r]? = some (.map es clk) := hh
    simp [setObj, Sem.run, this]
  rcases run_findKey (P := P) (K := K) mi c w with ⟨e1, e2⟩ | ⟨u, j, kvs, e1, e2, e3, e4, e5, e6⟩
  · have hm' : del m c = m := by
      funext y
      unfold del
      by_cases hy : y = c
      · subst hy; simp [e1]
      · simp [hy]
    obtain ⟨h', t', s'⟩ := sat_mapPut (clk' := clk) sa tk mi
    simp only [execOp, resolve, invoke, builtin, hx n a s, hi n a s, Builtin.delete_, Sem.run_bind, List.map_toArray, List.map_cons, List.map_nil, List.getElem?_toArray, List.getElem?_cons_zero, List.getElem?_cons_succ, run_und q.und, Result.andThen_ok, hg, k.check, e2, hset, Sem.run_pure, ResS, hm']
    exact ⟨_, h', rfl, t', s'⟩
  · have hlen : kvs.length = es.size := by have := congrArg List.length e3; simpa using this.symm
    have mi' : MapIs enc (es.eraseIdxIfInBounds j) (del m c) := by
      refine ⟨kvs.eraseIdx j, ?_, ?_, ?_⟩
      · have : (es.eraseIdxIfInBounds j).toList = es.toList.eraseIdx j := by
          unfold Array.eraseIdxIfInBounds
          split
          · simp
          · rw [List.eraseIdx_of_length_le (by simp; omega)]
        rw [this, map_eraseIdx', e3, map_eraseIdx']
      · rw [map_eraseIdx']; exact e4.sublist (List.eraseIdx_sublist _ _)
      · rw [e5]; exact (lk_del kvs c j e4 e6).symm
    obtain ⟨h', t', s'⟩ := sat_mapPut (clk' := clk) sa tk mi'
    simp only [execOp, resolve, invoke, builtin, hx n a s, hi n a s, Builtin.delete_, Sem.run_bind, List.map_toArray, List.map_cons, List.map_nil, List.getElem?_toArray, List.getElem?_cons_zero, List.getElem?_cons_succ, run_und q.und, Result.andThen_ok, hg, k.check, e2, hset, Sem.run_pure, ResS]
    exact ⟨_, h', rfl, t', s'⟩
theorem OpS.makeMap {t : TypeId} : OpS P w0 L M ⟨d, .makeMap t none, T, p, af, g⟩ (fun v N => ∃ r, v = .map (some r) ∧ N = mp enc r (fun _ => none) :: M) noP := fun n a w h s mm sa => by
  obtain ⟨h', ⟨h1, h2, l1, l2, dd, ha, m2⟩, s'⟩ := sa.push mm (.map #[] 0)
  simp only [execOp, Instr.makeMap, Option.map_none, Sem.run_bind, newObj, Sem.run, Result.andThen_ok, Sem.run_pure, Sem.run_pure', ResS]
  exact ⟨_, h', ⟨_, rfl, rfl⟩, ⟨h1, h2, l1, l2, dd, ⟨_, _, ha, MapIs.empty⟩, m2⟩, s'⟩
end
section
variable {P : Program} {w0 : World} {n : Nat} {ops : Array Oper} {Q : Exit → Act → World → Prop} {L : Env} {M : List HProp} {l : List Oper} {T : TypeId} {p : String} {af : Array Edge}
variable {κ : Type} [DecidableEq κ] {enc : κ → Value}
theorem RL.mapUpdate {t : TypeId} {K E : Nat} {x i y : Operand} [q : MapT P t K E] [k : KeyT P K κ enc] {r : Nat} {m : κ → Option Value} {c : κ} {v : Value} {M' : List HProp} (hx : Ev L x (.map (some r))) (hi : Ev L i (enc c)) (hy : Ev L y v) (hm : Takes M [mp enc r m] M')
    (kk : RL P w0 n ops Q l L (mp enc r (upd m c v) :: M')) : RL P w0 n ops Q (⟨none, .mapUpdate t x i y, T, p, af, none⟩ :: l) L M := RL.s0 (OpS.mapUpdate hx hi hy hm) (by rintro _ _ rfl; exact kk) (fun _ _ h => h.elim)
theorem RL.insert {t : TypeId} {K E : Nat} {x i y : Operand} [q : MapT P t K E] [k : KeyT P K κ enc] {r : Nat} {m : κ → Option Value} {c : κ} {v : Value} {M' : List HProp} (hx : Ev L x (.map (some r))) (hi : Ev L i (enc c)) (hy : Ev L y v) (hm : Takes M [mp enc r m] M')
    (kk : RL P w0 n ops Q l L (mp enc r (upd m c v) :: M')) : RL P w0 n ops Q (⟨none, .insert t x i y, T, p, af, none⟩ :: l) L M := RL.s0 (OpS.insert hx hi hy hm) (by rintro _ _ rfl; exact kk) (fun _ _ h => h.elim)
theorem RL.delete {ts : List TypeId} {t : TypeId} {K E : Nat} {x i : Operand} [q : MapT P t K E] [k : KeyT P K κ enc] {r : Nat} {m : κ → Option Value} {c : κ} {M' : List HProp} (hx : Ev L x (.map (some r))) (hi : Ev L i (enc c)) (hm : Takes M [mp enc r m] M')
    (kk : RL P w0 n ops Q l L (mp enc r (del m c) :: M')) : RL P w0 n ops Q (⟨none, .call { callee := .builtin .delete, args := #[x, i], argTypes := (t :: ts).toArray }, T, p, af, none⟩ :: l) L M := RL.s0 (OpS.delete hx hi hm) (by rintro _ _ rfl; exact kk) (fun _ _ h => h.elim)
theorem RL.makeMap {d : Nat} {t : TypeId} (hd : Nat.blt d n = true) (enc : κ → Value) (kk : ∀ r, RL P w0 n ops Q l ((d, .map (some r)) :: L) (mp enc r (fun _ => none) :: M)) : RL P w0 n ops Q (⟨some d, .makeMap t none, T, p, af, none⟩ :: l) L M :=
  RL.s (OpS.makeMap (enc := enc)) hd (by rintro _ _ ⟨r, rfl, rfl⟩; exact kk r) (fun _ _ h => h.elim)
end
attribute [irreducible] HasMap mp rmp
end Go.Proofs.YtgmapenlgammfaaGreatDoor
