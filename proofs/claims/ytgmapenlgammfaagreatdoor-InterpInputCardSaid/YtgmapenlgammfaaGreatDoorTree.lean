/- The package ast: which trees belong to a category, and a tree's numbers. -/
import Derived.Test.YtgmapenlgammfaaGreatDoorAst
set_option linter.all false
namespace Go.Proofs.YtgmapenlgammfaaGreatDoor
open Go

mutual
/-- Whether a tree belongs to a category. -/
def isB : Node → Int → Bool
  | .mk k n s kids, want =>
    if k = 47 then (bitAnd .u8 want 8 != 0) && n == 0 && decide (s = ⟨#[]⟩) && stmtsB kids
    else match formOf k with
      | none => false
      | some f => !(bitAnd .u8 f.is want == 0) && !decide (n < f.low) && !decide (n > f.high) && !(f.name && !nameB s) && !(!f.name && !decide (s = ⟨#[]⟩)) && kidsB kids f.kids
def stmtsB : List Node → Bool
  | [] => true
  | n :: r => isB n 4 && stmtsB r
def kidsB : List Node → List Int → Bool
  | [], [] => true
  | n :: r, c :: cs => isB n c && kidsB r cs
  | _, _ => false
end
theorem anyI_iff (q : Nat → Bool) (n : Nat) : anyI q n = true ↔ ∃ i, i < n ∧ q i = true := by
  unfold anyI
  rw [List.any_eq_true]
  constructor
  · rintro ⟨x, h1, h2⟩; exact ⟨x, by simpa using h1, h2⟩
  · rintro ⟨x, h1, h2⟩; exact ⟨x, by simpa using h1, h2⟩
theorem allI_iff (q : Nat → Bool) (n : Nat) : allI q n = true ↔ ∀ i, i < n → q i = true := by
  unfold allI
  rw [List.all_eq_true]
  exact ⟨fun h i hi => h i (by simpa using hi), fun h i hi => h i (by simpa using hi)⟩
theorem anyI_list {α : Type} (l : List α) (p : α → Bool) (d : α) : anyI (fun i => p (l.getD i d)) l.length = l.any p := by
  rw [Bool.eq_iff_iff, anyI_iff, List.any_eq_true]
  constructor
  · rintro ⟨i, hi, h⟩
    rw [List.getD_eq_getElem?_getD, List.getElem?_eq_getElem hi] at h
    exact ⟨l[i], List.getElem_mem hi, h⟩
  · rintro ⟨x, hx, h⟩
    obtain ⟨i, hi, rfl⟩ := List.mem_iff_getElem.1 hx
    exact ⟨i, hi, by simpa [List.getD_eq_getElem?_getD, List.getElem?_eq_getElem hi] using h⟩
theorem allI_list {α : Type} (l : List α) (p : α → Bool) (d : α) : allI (fun i => p (l.getD i d)) l.length = l.all p := by
  rw [Bool.eq_iff_iff, allI_iff, List.all_eq_true]
  constructor
  · intro h x hx
    obtain ⟨i, hi, rfl⟩ := List.mem_iff_getElem.1 hx
    have := h i hi
    rwa [List.getD_eq_getElem?_getD, List.getElem?_eq_getElem hi] at this
  · intro h i hi
    simp only [List.getD_eq_getElem?_getD, List.getElem?_eq_getElem hi, Option.getD_some]
    exact h _ (List.getElem_mem hi)
def node0 : Node := .mk 0 0 ⟨#[]⟩ []
theorem stmtsB_all (l : List Node) : stmtsB l = l.all (isB · 4) := by
  induction l with
  | nil => simp [stmtsB]
  | cons n r ih => simp [stmtsB, ih]
theorem kidsB_eq (l : List Node) : ∀ cs : List Int, kidsB l cs = (decide (l.length = cs.length) && allI (fun i => isB (l.getD i node0) (cs.getD i 0)) l.length) := by
  induction l with
  | nil => intro cs; cases cs <;> simp [kidsB, allI]
  | cons n r ih =>
    intro cs
    cases cs with
    | nil => simp [kidsB]
    | cons c cs =>
      rw [kidsB, ih cs, Bool.eq_iff_iff]
      simp only [Bool.and_eq_true, allI_iff, decide_eq_true_eq, List.length_cons]
      constructor
      · rintro ⟨h1, h2, h3⟩
        refine ⟨by omega, ?_⟩
        intro i hi
        rcases i with _ | i
        · simpa using h1
        · simpa using h3 i (by omega)
      · rintro ⟨h1, h2⟩
        refine ⟨by simpa using h2 0 (by omega), by omega, ?_⟩
        intro i hi
        simpa using h2 (i + 1) (by omega)

section
attribute [local semireducible] HasMap
theorem HasMap.base {w0 : World} {M : List HProp} {κ : Type} [DecidableEq κ] {enc : κ → Value} {r : Nat} {m : κ → Option Value} {es : Array MapEntry} {clk : Nat} (h : w0.heap[r]? = some (.map es clk)) (k : MapIs enc es m) : HasMap w0 M enc r m := fun w _ _ s => by
  refine ⟨es, clk, ?_, k⟩
  rw [s.base r (Array.getElem?_eq_some_iff.1 h).1]
  exact h
end
section
variable {P : Program} {w0 : World} {L : Env} {M : List HProp} {d : Option Tmp} {T : TypeId} {p : String} {af : Array Edge} {g : Option (Nat × Bool)}
variable {κ : Type} [DecidableEq κ] {enc : κ → Value}
theorem OpP.lookupSome {t : TypeId} {K E : Nat} {z : Value} {x i : Operand} [q : MapT P t K E] [k : KeyT P K κ enc] [zz : ZeroT P E z] {r : Nat} {m : κ → Option Value} {y : κ} {v : Value} (hx : Ev L x (.map (some r))) (hi : Ev L i (enc y)) (hm : HasMap w0 M enc r m) (hv : m y = some v) :
    OpP P w0 L M ⟨d, .lookup t x i true, T, p, af, g⟩ (.tuple #[v, .bool true]) := by
  have := OpP.lookupOk (P := P) (t := t) (z := z) (d := d) (T := T) (p := p) (af := af) (g := g) hx hi hm
  rw [hv] at this
  exact this
theorem OpP.lookupNone {t : TypeId} {K E : Nat} {z : Value} {x i : Operand} [q : MapT P t K E] [k : KeyT P K κ enc] [zz : ZeroT P E z] {r : Nat} {m : κ → Option Value} {y : κ} (hx : Ev L x (.map (some r))) (hi : Ev L i (enc y)) (hm : HasMap w0 M enc r m) (hv : m y = none) :
    OpP P w0 L M ⟨d, .lookup t x i true, T, p, af, g⟩ (.tuple #[z, .bool false]) := by
  have := OpP.lookupOk (P := P) (t := t) (z := z) (d := d) (T := T) (p := p) (af := af) (g := g) hx hi hm
  rw [hv] at this
  exact this
end

theorem is1_spec (w0 : World) (r : Nat) (b : Nat) (cs : List Value) (q : Bool) (hlen : cs.length = 4)
    (h : Spec Tryz.prog w0 72 #[.map (some r), .agg cs.toArray, .int .u8 4] [] (Is (.bool q))) :
    Spec Tryz.prog w0 105 #[.agg cs.toArray, .pointer (some ⟨b, 0, none⟩)] [cel b 143 [.map (some r)]] (Ret (fun v N => v = .bool (!q) ∧ N = [cel b 143 [.map (some r)]]) noP) := by
  refine Spec.enter (args := [_, _]) Tryz.func105 rfl rfl rfl (fun F => ?_)
  refine kAuto ?_
  (apply RL.boxR; exact kEv; exact rfl; intro b2)
  refine kAuto ?_
  (apply RL.callIs; exact kEv; exact inferInstance; exact kEvl; exact h; exact rfl)
  cases q <;> refine kAuto ?_ <;> exact XJ.ret1 rfl rfl [_] (by exact kGives) ⟨rfl, rfl⟩

theorem is_spec (w0 : World) (hT : Tab w0) (r : Nat) (hF : FormsAt w0 r) : ∀ (m : Nat) (n : Node) (cs : List Value) (want : Int), n.size ≤ m → n.size < 4611686018427387904 → NodeR w0 n cs →
    Spec Tryz.prog w0 72 #[.map (some r), .agg cs.toArray, .int .u8 want] [] (Is (.bool (isB n want))) := by
  intro m
  induction m with
  | zero => intro n cs want h; have := n.size_pos; omega
  | succ m ih =>
    intro n cs want hm hs hR
    obtain ⟨A, cap, rows, rfl, hc, hl, hb, hk⟩ := hR.open
    obtain ⟨kd, num, nm, kids⟩ := n
    simp only [Node.kind, Node.num, Node.name, Node.kids] at *
    have hkl : kids.length < 4611686018427387904 := by have := Node.kids_le (.mk kd num nm kids); simp only [Node.kids] at this; omega
    have hkid : ∀ i (hi : i < kids.length) (want : Int), Spec Tryz.prog w0 72 #[.map (some r), .agg ((rows[i]'(by omega)).toArray), .int .u8 want] [] (Is (.bool (isB kids[i] want))) := by
      intro i hi want
      have hlt := Node.size_kid (n := .mk kd num nm kids) (m := kids[i]) (List.getElem_mem hi)
      exact ih _ _ want (by omega) (by omega) (hk i _ _ (by simp [hi]) (by simp [show i < rows.length by omega]))
    obtain ⟨es, clk, mm, hmap, hmi, hform⟩ := hF
    have hHM : ∀ M, HasMap w0 M (Value.int .u8) r mm := fun M => HasMap.base hmap hmi
    have hcall := fun b3 => node_contains_spec w0 105 [] [.pointer (some ⟨b3, 0, none⟩)] A cap rows [cel b3 143 [.map (some r)]] (fun i => !isB (kids.getD i node0) 4) inferInstance (by omega) hb (fun i hi => by
      rw [show kids.getD i node0 = kids[i]'(by omega) by simp [List.getD_eq_getElem?_getD, show i < kids.length by omega]]
      exact is1_spec w0 r b3 _ _ (hb.at_ i hi).choose_spec.choose_spec.2.1 (hkid i (by omega) 4))
    refine Spec.enter (args := [_, _, _]) Tryz.func72 rfl rfl rfl (fun F => ?_)
    refine kAuto ?_
    (apply RL.box1; exact kEv; exact rfl; exact rfl; intro b3)
    refine kAuto ?_
    (apply RL.boxR; exact kEv; exact rfl; intro b4)
    refine kAuto ?_
    (refine CJ.cond (by exact kEv) (fun h => ?_) (fun h => ?_))
    · obtain rfl : kd = 47 := by simpa using h
      have hB : isB (.mk 47 num nm kids) want = ((bitAnd .u8 want 8 != 0) && num == 0 && decide (nm = ⟨#[]⟩) && stmtsB kids) := by simp [isB]
      refine kAuto ?_
      cases h1 : (bitAnd .u8 want 8 != 0)
      · refine kAuto ?_
        refine XJ.ret1 rfl rfl [] (by exact kGives) ⟨?_, rfl⟩
        rw [hB, h1]; rfl
      refine kAuto ?_
      cases h2 : num == 0
      · refine kAuto ?_
        refine XJ.ret1 rfl rfl [] (by exact kGives) ⟨?_, rfl⟩
        rw [hB, h1, h2]; rfl
      refine kAuto ?_
      cases h3 : decide (nm = ⟨#[]⟩)
      · refine kAuto ?_
        refine XJ.ret1 rfl rfl [] (by exact kGives) ⟨?_, rfl⟩
        rw [hB, h1, h2, h3]; rfl
      refine kAuto ?_
      rw [← hl]
      (apply RL.callK; exact kEv; exact inferInstance; exact kEvl; exact (Takes.there (Takes.here _ _)); exact hcall b3; exact rfl)
      rintro _ _ ⟨rfl, rfl⟩
      refine kAuto ?_
      have hst : stmtsB kids = !(anyI (fun i => !isB (kids.getD i node0) 4) rows.length) := by
        rw [stmtsB_all, hl, anyI_list kids (fun n => !isB n 4) node0, List.not_any_eq_all_not]
        simp
      cases h4 : anyI (fun i => !isB (kids.getD i node0) 4) rows.length
      · refine kAuto ?_
        refine XJ.ret1 rfl rfl [] (by exact kGives) ⟨?_, rfl⟩
        rw [hB, h1, h2, h3, hst, h4]; rfl
      · refine kAuto ?_
        refine XJ.ret1 rfl rfl [] (by exact kGives) ⟨?_, rfl⟩
        rw [hB, h1, h2, h3, hst, h4]; rfl
    · have h47 : ¬ kd = 47 := by simpa using h
      refine kAuto ?_
      cases hf : formOf kd with
      | none =>
        have hv : mm kd = none := by have := hform kd; unfold FormAt at this; rw [hf] at this; exact this
        have hB : isB (.mk kd num nm kids) want = false := by simp [isB, h47, hf]
        apply RL.pur; (apply OpP.lookupNone; exact kEv; exact kEv; exact hHM _; exact hv); exact rfl
        refine kAuto ?_
        (apply RL.alloc; exact rfl; exact rfl; intro b7)
        (apply RL.storeA; exact kEv; exact kEv; exact kTake; exact rfl; exact rfl; exact rfl)
        refine kAuto ?_
        --DBG
        refine XJ.ret1 rfl rfl [] (by exact kGives) ⟨?_, rfl⟩
        rw [hB]
      | some f =>
        obtain ⟨v, hv, B, rfl, hrows⟩ : ∃ v, mm kd = some v ∧ FormIs w0 f v := by have := hform kd; unfold FormAt at this; rw [hf] at this; exact this
        have hB : isB (.mk kd num nm kids) want = (!(bitAnd .u8 f.is want == 0) && !decide (num < f.low) && !decide (num > f.high) && !(f.name && !nameB nm) && !(!f.name && !decide (nm = ⟨#[]⟩)) && kidsB kids f.kids) := by simp [isB, h47, hf]
        apply RL.pur; (apply OpP.lookupSome; exact kEv; exact kEv; exact hHM _; exact hv); exact rfl
        refine kAuto ?_
        (apply RL.alloc; exact rfl; exact rfl; intro b7)
        (apply RL.storeA; exact kEv; exact kEv; exact kTake; exact rfl; exact rfl; exact rfl)
        refine kAuto ?_
        have hE := node_equal_spec w0 72 [.map (some r)] [] A B cap f.kids.length rows (catV f.kids) [] (fun i => isB (kids.getD i node0) (f.kids.getD i 0)) inferInstance (by omega) hb (fun row hrow => by
          obtain ⟨i, hi, rfl⟩ := List.mem_iff_getElem.1 hrow
          obtain ⟨A', c', e, _⟩ := (hk i (kids[i]'(by omega)) (rows[i]'hi) (by simp [show i < kids.length by omega]) (by simp [hi])).kids
          rw [e]; rfl) hrows (fun i hi hj => by
          have hj' : i < f.kids.length := by simpa [catV] using hj
          rw [show kids.getD i node0 = kids[i]'(by omega) by simp [List.getD_eq_getElem?_getD, show i < kids.length by omega], show f.kids.getD i 0 = f.kids[i]'hj' by simp [List.getD_eq_getElem?_getD, hj'], show (catV f.kids)[i]'hj = .int .u8 (f.kids[i]'hj') by simp [catV]]
          exact hkid i (by omega) _)
        rw [show (catV f.kids).length = f.kids.length by simp [catV]] at hE
        cases h1 : (bitAnd .u8 f.is want == 0)
        case true =>
          refine kAuto ?_
          refine XJ.ret1 rfl rfl [] (by exact kGives) ⟨?_, rfl⟩
          rw [hB, h1]; rfl
        refine kAuto ?_
        cases h2 : decide (num < f.low)
        case true =>
          refine kAuto ?_
          refine XJ.ret1 rfl rfl [] (by exact kGives) ⟨?_, rfl⟩
          rw [hB, h1, h2]; rfl
        refine kAuto ?_
        cases h3 : decide (num > f.high)
        case true =>
          refine kAuto ?_
          refine XJ.ret1 rfl rfl [] (by exact kGives) ⟨?_, rfl⟩
          rw [hB, h1, h2, h3]; rfl
        refine kAuto ?_
        have hfin : ∀ {L : Env}, nameB nm = true ∧ f.name = true ∨ f.name = false ∧ decide (nm = ⟨#[]⟩) = true → isB (.mk kd num nm kids) want = (decide (rows.length = f.kids.length) && allI (fun i => isB (kids.getD i node0) (f.kids.getD i 0)) rows.length) := by
          intro _ hh
          rw [hB, h1, h2, h3, kidsB_eq, ← hl]
          rcases hh with ⟨e1, e2⟩ | ⟨e1, e2⟩ <;> rw [e1, e2] <;> simp
        cases h4 : f.name
        · refine kAuto ?_
          cases h5 : decide (nm = ⟨#[]⟩)
          · refine kAuto ?_
            refine XJ.ret1 rfl rfl [] (by exact kGives) ⟨?_, rfl⟩
            rw [hB, h1, h2, h3, h4, h5]; rfl
          · refine kAuto ?_
            rw [← hl]
            (apply RL.callK; exact kEv; exact inferInstance; exact kEvl; exact (Takes.nil _); exact hE; exact rfl)
            rintro _ _ ⟨rfl, rfl⟩
            refine kAuto ?_
            refine XJ.ret1 rfl rfl [] (by exact kGives) ⟨?_, rfl⟩
            rw [hfin (L := []) (.inr ⟨h4, h5⟩)]
        · refine kAuto ?_
          (apply RL.callIs; exact kEv; exact inferInstance; exact kEvl; exact name_spec w0 hT nm; exact rfl)
          cases h5 : nameB nm
          · refine kAuto ?_
            refine XJ.ret1 rfl rfl [] (by exact kGives) ⟨?_, rfl⟩
            rw [hB, h1, h2, h3, h4, h5]; rfl
          · refine kAuto ?_
            rw [← hl]
            (apply RL.callK; exact kEv; exact inferInstance; exact kEvl; exact (Takes.nil _); exact hE; exact rfl)
            rintro _ _ ⟨rfl, rfl⟩
            refine kAuto ?_
            refine XJ.ret1 rfl rfl [] (by exact kGives) ⟨?_, rfl⟩
            rw [hfin (L := []) (.inl ⟨h5, h4⟩)]
end Go.Proofs.YtgmapenlgammfaaGreatDoor
