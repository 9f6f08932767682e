/- Contracts of package lexer's Name and what it calls. -/
import Derived.Test.YtgmapenlgammfaaGreatDoorWord
import Derived.Test.YtgmapenlgammfaaGreatDoorAny
import Derived.Test.YtgmapenlgammfaaGreatDoorShelf
set_option linter.all false
namespace Go.Proofs.YtgmapenlgammfaaGreatDoor
open Go

theorem mixed : Tryz.prog.follows .mixedOrders = true := by kernel_rfl
theorem i64_succ (i : Nat) (h : i < 9223372036854775807) : IntKind.i64.wrap ((i : Int) + 1) = ((i + 1 : Nat) : Int) := by
  simp only [IntKind.wrap, IntKind.signed, IntKind.bits]
  simp
  omega

def letterB (c : Int) : Bool := decide (c ≥ 97) && decide (c ≤ 122)
def digitB (c : Int) : Bool := decide (c ≥ 48) && decide (c ≤ 57)
theorem letter_spec (w0 : World) (c : Int) : Spec Tryz.prog w0 155 #[.int .u8 c] [] (Is (.bool (letterB c))) := by
  refine Spec.enter (args := [_]) Tryz.func155 rfl rfl rfl (fun F => ?_)
  refine kAuto ?_
  cases h : decide (c ≥ 97)
  · refine kAuto ?_
    exact XJ.ret1 rfl rfl [] (Gives.refl _) ⟨by simp [letterB, h], rfl⟩
  · refine kAuto ?_
    exact XJ.ret1 rfl rfl [] (Gives.refl _) ⟨by simp [letterB, h], rfl⟩
theorem digit_spec (w0 : World) (c : Int) : Spec Tryz.prog w0 176 #[.int .u8 c] [] (Is (.bool (digitB c))) := by
  refine Spec.enter (args := [_]) Tryz.func176 rfl rfl rfl (fun F => ?_)
  refine kAuto ?_
  cases h : decide (c ≥ 48)
  · refine kAuto ?_
    exact XJ.ret1 rfl rfl [] (Gives.refl _) ⟨by simp [digitB, h], rfl⟩
  · refine kAuto ?_
    exact XJ.ret1 rfl rfl [] (Gives.refl _) ⟨by simp [digitB, h], rfl⟩
def wordB (c : Int) : Bool := letterB c || digitB c
theorem word_spec (w0 : World) (c : Int) : Spec Tryz.prog w0 175 #[.int .u8 c] [] (Is (.bool (wordB c))) := by
  refine Spec.enter (args := [_]) Tryz.func175 rfl rfl rfl (fun F => ?_)
  refine kAuto ?_
  (apply RL.callIs; exact kEv; exact inferInstance; exact kEvl; exact letter_spec _ _; exact rfl)
  refine kAuto ?_
  cases h : letterB c
  · refine kAuto ?_
    (apply RL.callIs; exact kEv; exact inferInstance; exact kEvl; exact digit_spec _ _; exact rfl)
    refine kAuto ?_
    cases h2 : digitB c
    all_goals
      refine kAuto ?_
      exact XJ.ret1 rfl rfl [] (Gives.refl _) ⟨by simp [wordB, h, h2], rfl⟩
  · refine kAuto ?_
    exact XJ.ret1 rfl rfl [] (Gives.refl _) ⟨by simp [wordB, h], rfl⟩

/-- How many bytes at the beginning of a text are letters or digits. -/
def wordLen (l : List UInt8) : Nat := (l.takeWhile fun c => wordB c.toNat).length
theorem wordLen_spec (l : List UInt8) (i : Nat) (hi : i ≤ l.length) (h : ∀ j, j < i → ∀ c, l[j]? = some c → wordB c.toNat = true) (he : ∀ c, l[i]? = some c → wordB c.toNat = false) : wordLen l = i := by
  unfold wordLen
  induction l generalizing i with
  | nil => simp at hi; simp [hi]
  | cons x l ih =>
    cases i with
    | zero =>
      have := he x (by simp)
      simp [List.takeWhile_cons, this]
    | succ i =>
      have h0 := h 0 (by omega) x (by simp)
      have := ih i (by simpa using hi) (fun j hj c hc => h (j + 1) (by omega) c (by simpa using hc)) (fun c hc => he c (by simpa using hc))
      simp [List.takeWhile_cons, h0, this]
theorem run_spec (w0 : World) (s : ByteArray) (b : Nat) (hs : s.size < 9223372036854775807) : Spec Tryz.prog w0 174 #[.func (.func 175) #[] #[], .pointer (some ⟨b, 0, none⟩)] [cel b 9 [.string s]]
    (Ret (fun v N => v = .int .i64 (wordLen s.data.toList) ∧ N = [cel b 9 [.string s]]) noP) := by
  refine Spec.enter (args := [_, _]) Tryz.func174 rfl rfl rfl (fun F => ?_)
  refine kAuto ?_
  refine CJ.loop (σ := Nat) (fun i => i ≤ s.size ∧ ∀ j, j < i → ∀ c, s.data.toList[j]? = some c → wordB c.toNat = true) (fun i => [(4, .int .i64 (i : Int)), (0, .func (.func 175) #[] #[]), (1, .pointer (some ⟨b, 0, none⟩))]) (fun _ => [cel b 9 [.string s]] ++ F) (fun i => s.size - i) 0 ⟨Nat.zero_le _, fun j hj => by omega⟩ (by exact kEsub) (Gives.refl _) ?_
  intro i ⟨hi, hw⟩
  refine kAuto ?_
  cases hl : decide ((i : Int) < (s.size : Int))
  · have hge : i = s.size := by have := of_decide_eq_false hl; omega
    refine kAuto ?_
    refine XJ.ret1 rfl rfl _ (Gives.refl _) ⟨?_, rfl⟩
    rw [wordLen_spec s.data.toList i (by simp; omega) hw (fun c hc => by rw [List.getElem?_eq_none (by simp; omega)] at hc; cases hc)]
  · have hlt : i < s.size := by have := of_decide_eq_true hl; omega
    obtain ⟨c, hc⟩ : ∃ c, s.data.toList[i]? = some c := ⟨s.data.toList[i]'(by simpa using hlt), by simp⟩
    refine kAuto ?_
    apply RL.pur; (apply OpP.sindex; exact kEv; exact kEv; exact (by rw [hc]; rfl)); exact rfl
    refine kAuto ?_
    (apply RL.callIs; exact kEv; exact inferInstance; exact kEvl; exact word_spec _ _; exact rfl)
    refine kAuto ?_
    cases hb : wordB (c.toNat : Int)
    · refine kAuto ?_
      refine XJ.ret1 rfl rfl _ (Gives.refl _) ⟨?_, rfl⟩
      rw [wordLen_spec s.data.toList i (by simp; omega) hw (fun c' hc' => by rw [hc] at hc'; injection hc' with hc'; subst hc'; exact hb)]
    · refine kAuto ?_
      rw [i64_succ i (by omega)]
      refine XJ.round (i + 1) ⟨by omega, fun j hj c' hc' => ?_⟩ (by omega) (by exact kEsub) (Gives.refl _)
      by_cases hji : j = i
      · subst hji; rw [hc] at hc'; injection hc' with hc'; subst hc'; exact hb
      · exact hw j (by omega) c' hc'

/-- The library's table of white space lies in the base. -/
def Tab (w : World) : Prop := Lib.TabIs Tryz.prog w "strings.asciiSpace" .u8 Lib.asciiSpaceTab
theorem Tab.of_below {w w' : World} (h : Tab w) (b : Go.RowKit.Below w.heap.size w w') : Tab w' := by
  have hg : Tryz.prog.globalNamed "strings.asciiSpace" = some 0 := by kernel_rfl
  unfold Tab Lib.TabIs at *
  have hlt : 0 < w.heap.size := by
    rcases Nat.lt_or_ge 0 w.heap.size with h1 | h1
    · exact h1
    · exfalso
      simp only [World.var?, hg, Option.bind_some] at h
      rw [Array.getElem?_eq_none h1] at h
      cases h
  simp only [World.var?, hg, Option.bind_some] at h ⊢
  rw [b.block _ hlt]
  exact h
theorem Tab.sat {w0 w : World} {h : Frag} (t : Tab w0) (s : Sat w0 w h) : Tab w := t.of_below s.below
attribute [local semireducible] Spec pt
/-- A call that lays one new block. -/
theorem Spec.of_alloc {P : Program} {w0 : World} {f : FuncId} {args : Array Value} {g : Nat → Value} {T : TypeId} {cs : List Value}
    (k : ∀ w h, Sat w0 w h → Calls P f args w fun e w' => e = .returned (g w.heap.size) ∧ w' = w.alloc (.cells cs.toArray T)) :
    Spec P w0 f args [] (Ret (fun v N => ∃ b, v = g b ∧ N = [cel b T cs]) noP) := by
  intro F w h m s
  refine (k w h s).mono ?_
  rintro e w' ⟨rfl, rfl⟩
  obtain ⟨h', m', s'⟩ := s.push m (.cells cs.toArray T (0, 0))
  exact ⟨_, h', ⟨_, rfl, rfl⟩, m', s'⟩
theorem fields_spec (w0 : World) (hT : Tab w0) (s : ByteArray) (hs : s.size < 4294967281) (ha : ∀ (j : Nat) b, s.data.toList[j]? = some b → b.toNat < 128) :
    Spec Tryz.prog w0 173 #[.string s] [] (Ret (fun v N => ∃ b, v = .slice (some ⟨b, 0, none⟩) (Lib.fields s.data.toList).length (Lib.fields s.data.toList).length ∧ N = [cel b 9 ((Lib.fields s.data.toList).map fun l => Value.string ⟨l.toArray⟩)]) noP) :=
  Spec.of_alloc (g := fun b => .slice (some ⟨b, 0, none⟩) (Lib.fields s.data.toList).length (Lib.fields s.data.toList).length) fun w h sa => Tryz.strings_Fields s w hs ha (hT.sat sa)

/-! slices.Contains over strings -/
def idxOf (l : List ByteArray) (x : ByteArray) (i : Nat) : Int := match l with
  | [] => -1
  | y :: r => if x = y then (i : Int) else idxOf r x (i + 1)
theorem idxOf_nonneg (l : List ByteArray) (x : ByteArray) : ∀ i, (decide (idxOf l x i ≥ 0)) = l.any (fun y => decide (x = y)) := by
  induction l with
  | nil => intro i; rfl
  | cons y r ih =>
    intro i
    unfold idxOf
    rw [List.any_cons]
    by_cases h : x = y
    · simp [h]
    · simpa [h] using ih (i + 1)
theorem index_spec (w0 : World) (l : List ByteArray) (x : ByteArray) (b c : Nat) (hl : l.length < 4611686018427387904) (pre : List HProp) (hh : HasAt w0 pre b 0 (l.map Value.string)) :
    Spec Tryz.prog w0 180 #[.slice (some ⟨b, 0, none⟩) l.length c, .string x] pre (Ret (fun v N => v = .int .i64 (idxOf l x 0) ∧ N = pre) noP) := by
  refine Spec.enter (args := [_, _]) Tryz.func180 rfl rfl rfl (fun F => ?_)
  refine kAuto ?_
  refine CJ.loop (σ := Nat) (fun i => i ≤ l.length ∧ idxOf l x 0 = idxOf (l.drop i) x i) (fun i => [(8, .int .i64 (i : Int)), (0, .slice (some ⟨b, 0, none⟩) l.length c), (1, .string x), (7, .int .i64 (l.length : Int))]) (fun _ => pre ++ F) (fun i => l.length - i) 0 ⟨Nat.zero_le _, by simp⟩ (by exact kEsub) (Gives.refl _) ?_
  intro i ⟨hi, he⟩
  refine kAuto ?_
  cases hlt : decide ((i : Int) < (l.length : Int))
  · have hge : i = l.length := by have := of_decide_eq_false hlt; omega
    refine kAuto ?_
    refine XJ.ret1 rfl rfl _ (Gives.refl _) ⟨?_, rfl⟩
    rw [he, hge, List.drop_length]
    rfl
  · have hlt' : i < l.length := by have := of_decide_eq_true hlt; omega
    refine kAuto ?_
    apply RL.pur; (apply OpP.indexAddr; exact kEv; exact kEv; exact hlt'); exact rfl
    have hel : HasAt w0 (pre ++ F) b (0 + i * 1) [Value.string (l[i]'hlt')] := (hh.app F).sub (by
      intro j v hv
      rcases j with _ | j
      · simp at hv; subst hv; exact ⟨i, by omega, by simp [hlt']⟩
      · simp at hv)
    apply RL.pur; (apply OpP.load; exact kEv; exact hel); exact rfl
    refine kAuto ?_
    have hd : l.drop i = l[i]'hlt' :: l.drop (i + 1) := List.drop_eq_getElem_cons hlt'
    cases hc : decide (x = l[i]'hlt')
    · refine kAuto ?_
      rw [i64_succ i (by omega)]
      refine XJ.round (i + 1) ⟨by omega, ?_⟩ (by omega) (by exact kEsub) (Gives.refl _)
      rw [he, hd]
      have hc' := of_decide_eq_false hc
      simp [idxOf, hc']
    · refine kAuto ?_
      refine XJ.ret1 rfl rfl _ (Gives.refl _) ⟨?_, rfl⟩
      rw [he, hd]
      have hc' := of_decide_eq_true hc
      simp [idxOf, hc']
theorem contains_spec (w0 : World) (l : List ByteArray) (x : ByteArray) (b c : Nat) (hl : l.length < 4611686018427387904) (pre : List HProp) (hh : HasAt w0 pre b 0 (l.map Value.string)) :
    Spec Tryz.prog w0 172 #[.slice (some ⟨b, 0, none⟩) l.length c, .string x] pre (Ret (fun v N => v = .bool (l.any fun y => decide (x = y)) ∧ N = pre) noP) := by
  refine Spec.enter (args := [_, _]) Tryz.func172 rfl rfl rfl (fun F => ?_)
  refine kAuto ?_
  (apply RL.callK; exact kEv; exact inferInstance; exact kEvl; exact (Takes.app _ _); exact index_spec w0 l x b c hl pre hh; exact rfl)
  rintro _ _ ⟨rfl, rfl⟩
  refine kAuto ?_
  refine XJ.ret1 rfl rfl _ (Gives.refl _) ⟨?_, rfl⟩
  rw [idxOf_nonneg]


/-! keywords and names -/
def kwText : List UInt8 := [97, 114, 114, 97, 121, 32, 98, 111, 117, 110, 100, 32, 101, 108, 115, 101, 32, 102, 111, 114, 32, 105, 102, 32, 105, 110, 32, 108, 111, 99, 107, 32, 111, 117, 116, 32, 112, 101, 114, 105, 111, 100, 32, 115, 104, 97, 114, 101, 100, 32, 116, 97, 115, 107, 32, 118, 97, 114, 32, 119, 104, 105, 108, 101]
def kwList : List ByteArray := (Lib.fields kwText).map fun l => ⟨l.toArray⟩
def kwB (x : ByteArray) : Bool := kwList.any fun y => decide (x = y)
theorem ascii_of {l : List UInt8} (h : (l.all fun c => decide (c.toNat < 128)) = true) : ∀ (j : Nat) b, l[j]? = some b → b.toNat < 128 := by
  intro j b hb
  have := List.all_eq_true.1 h b (List.mem_of_getElem? hb)
  simpa using this
theorem keyword_spec (w0 : World) (hT : Tab w0) (x : ByteArray) : Spec Tryz.prog w0 156 #[.string x] [] (Is (.bool (kwB x))) := by
  refine Spec.enter (args := [_]) Tryz.func156 rfl rfl rfl (fun F => ?_)
  refine kAuto ?_
  (apply RL.callK; exact kEv; exact inferInstance; exact kEvl; exact (Takes.nil _); exact fields_spec w0 hT ⟨kwText.toArray⟩ (by decide) (ascii_of (l := kwText) (by decide)); exact rfl)
  rintro _ _ ⟨b, rfl, rfl⟩
  refine kAuto ?_
  have hh : HasAt w0 [cel b 9 ((Lib.fields kwText).map fun l => Value.string ⟨l.toArray⟩)] b 0 (kwList.map Value.string) := by
    have e : (kwList.map Value.string) = ((Lib.fields kwText).map fun l => Value.string ⟨l.toArray⟩) := by simp [kwList]
    rw [e]
    exact HasAt.pt (Takes.here _ _) atAll
  have hlen : (Lib.fields kwText).length = kwList.length := by simp [kwList]
  (apply RL.callK; exact kEv; exact inferInstance; exact kEvl; exact (Takes.app _ _); exact (show Spec Tryz.prog w0 172 #[.slice (some ⟨b, 0, none⟩) (Lib.fields kwText).length (Lib.fields kwText).length, .string x] _ _ from hlen ▸ contains_spec w0 kwList x b _ (by decide) _ hh); exact rfl)
  rintro _ _ ⟨rfl, rfl⟩
  refine kAuto ?_
  exact XJ.ret1 rfl rfl [] (Gives.trans (Gives.drop1 _ _) (Gives.refl _)) ⟨rfl, rfl⟩

/-- The first byte is a letter: the token is a word. -/
theorem token_spec (w0 : World) (s : ByteArray) (hs : s.size < 9223372036854775807) (c : UInt8) (hc : s.data.toList[0]? = some c) (hl : letterB c.toNat = true) :
    Spec Tryz.prog w0 157 #[.string s] [] (Is (.tuple #[.int .u8 1, .int .i64 (wordLen s.data.toList)])) := by
  refine Spec.enter (args := [_]) Tryz.func157 rfl rfl rfl (fun F => ?_)
  refine kAuto ?_
  (apply RL.box1; exact kEv; exact rfl; exact rfl; intro b)
  refine kAuto ?_
  apply RL.pur; (apply OpP.sindex (j := 0); exact kEv; exact kEv; exact (by rw [hc]; rfl)); exact rfl
  refine kAuto ?_
  (apply RL.callIs; exact kEv; exact inferInstance; exact kEvl; exact letter_spec _ _; exact rfl)
  rw [hl]
  refine kAuto ?_
  (apply RL.callK; exact kEv; exact inferInstance; exact kEvl; exact (Takes.here _ _); exact run_spec w0 s b hs; exact rfl)
  rintro _ _ ⟨rfl, rfl⟩
  refine kAuto ?_
  exact XJ.ret2 rfl rfl rfl [] (Gives.drop1 _ _) ⟨rfl, rfl⟩

/-- lexer.Name. -/
def nameB (s : ByteArray) : Bool :=
  match s.data.toList with
  | [] => false
  | c :: _ => decide (s.size ≤ 12) && letterB c.toNat && !kwB s && decide (wordLen s.data.toList = s.size)
theorem name_spec (w0 : World) (hT : Tab w0) (s : ByteArray) : Spec Tryz.prog w0 106 #[.string s] [] (Is (.bool (nameB s))) := by
  refine Spec.enter (args := [_]) Tryz.func106 rfl rfl rfl (fun F => ?_)
  refine kAuto ?_
  cases hd : s.data.toList with
  | nil =>
    obtain rfl : s = ⟨#[]⟩ := ba_data_inj (by rw [hd])
    refine kAuto ?_
    exact XJ.ret1 rfl rfl [] (Gives.refl _) ⟨rfl, rfl⟩
  | cons c r =>
    have hne : s ≠ ⟨#[]⟩ := fun e => by rw [e] at hd; cases hd
    rw [show decide (s = ⟨#[]⟩) = false from decide_eq_false hne]
    have hc : s.data.toList[0]? = some c := by rw [hd]; rfl
    refine kAuto ?_
    cases h12 : decide ((s.size : Int) > 12)
    · have h12' : s.size ≤ 12 := by have := of_decide_eq_false h12; omega
      have hs : s.size < 9223372036854775807 := by omega
      refine kAuto ?_
      apply RL.pur; (apply OpP.sindex (j := 0); exact kEv; exact kEv; exact (by rw [hc]; rfl)); exact rfl
      refine kAuto ?_
      (apply RL.callIs; exact kEv; exact inferInstance; exact kEvl; exact letter_spec _ _; exact rfl)
      refine kAuto ?_
      cases hl : letterB (c.toNat : Int)
      · refine kAuto ?_
        exact XJ.ret1 rfl rfl [] (Gives.refl _) ⟨by simp [nameB, hd, hl], rfl⟩
      · refine kAuto ?_
        (apply RL.callIs; exact kEv; exact inferInstance; exact kEvl; exact keyword_spec _ hT _; exact rfl)
        refine kAuto ?_
        cases hk : kwB s
        · refine kAuto ?_
          (apply RL.callIs; exact kEv; exact inferInstance; exact kEvl; exact token_spec _ s hs c hc hl; exact rfl)
          refine kAuto ?_
          cases hw : ((wordLen s.data.toList : Int) == (s.size : Int))
          all_goals
            refine kAuto ?_
            refine XJ.ret1 rfl rfl [] (Gives.refl _) ⟨?_, rfl⟩
            rw [hd] at hw
            simp [nameB, hd, hl, hk, h12']
            have hw' := hw
            simp only [beq_iff_eq, beq_eq_false_iff_ne] at hw'
            omega
        · refine kAuto ?_
          exact XJ.ret1 rfl rfl [] (Gives.refl _) ⟨by simp [nameB, hd, hl, hk], rfl⟩
    · have h12' : ¬ s.size ≤ 12 := by have := of_decide_eq_true h12; omega
      refine kAuto ?_
      exact XJ.ret1 rfl rfl [] (Gives.refl _) ⟨by simp [nameB, hd, h12'], rfl⟩
end Go.Proofs.YtgmapenlgammfaaGreatDoor
