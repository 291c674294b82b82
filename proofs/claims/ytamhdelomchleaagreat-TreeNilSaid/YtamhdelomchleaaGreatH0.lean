/- The machine's tables, checked. -/
import Derived.Test.YtamhdelomchleaaGreatJ7
set_option linter.unusedVariables false
set_option linter.unusedSimpArgs false
namespace Go.IM

/-- All in a tree. -/
def AllP {α : Type} (p : Nat → α → Prop) : Tr α → Nat → Nat → Prop
  | .nil, _, _ => True
  | .node l v r, i, s => (∀ x, v = some x → p i x) ∧ AllP p l (i + s) (s * 2) ∧ AllP p r (i + s + s) (s * 2)
section
variable {α : Type} {p : Nat → α → Prop}
theorem AllP.nil {i s : Nat} : AllP p (.nil : Tr α) i s := trivial
theorem AllP.no {l r : Tr α} {i s : Nat} (hl : AllP p l (i + s) (s * 2)) (hr : AllP p r (i + s + s) (s * 2)) : AllP p (.node l none r) i s := ⟨fun x h => (by cases h), hl, hr⟩
theorem AllP.yes {l r : Tr α} {x : α} {i s : Nat} (hx : p i x) (hl : AllP p l (i + s) (s * 2)) (hr : AllP p r (i + s + s) (s * 2)) : AllP p (.node l (some x) r) i s := ⟨fun y h => by cases h; exact hx, hl, hr⟩
theorem AllP.get : ∀ {t : Tr α} {i s : Nat}, AllP p t i s → ∀ m x, t.get m = some x → p (i + s * m) x
  | .nil, i, s, _, m, x, h => by rw [Tr.get_nil] at h; cases h
  | .node l v r, i, s, ⟨h1, h2, h3⟩, m, x, h => by
    rw [Tr.get_node] at h
    by_cases h0 : m = 0
    · subst h0
      rw [if_pos rfl] at h
      simpa using h1 x h
    · rw [if_neg h0] at h
      by_cases c : m % 2 = 1
      · rw [if_pos c] at h
        have e : i + s * m = i + s + s * 2 * (m / 2) := by
          have : m = 2 * (m / 2) + 1 := by omega
          rw [this, Nat.mul_add, Nat.mul_assoc]
          have e2 : (2 * (m / 2) + 1) / 2 = m / 2 := by omega
          rw [e2]
          omega
        rw [e]
        exact AllP.get h2 _ _ h
      · rw [if_neg c] at h
        have e : i + s * m = i + s + s + s * 2 * (m / 2 - 1) := by
          have : m = 2 * (m / 2 - 1) + 2 := by omega
          rw [this, Nat.mul_add, Nat.mul_assoc]
          have e2 : (2 * (m / 2 - 1) + 2) / 2 - 1 = m / 2 - 1 := by omega
          rw [e2]
          omega
        rw [e]
        exact AllP.get h3 _ _ h
end
def allB {α : Type} (p : Nat → α → Bool) : Tr α → Nat → Nat → Bool
  | .nil, _, _ => true
  | .node l v r, i, s => (match v with | none => true | some x => p i x) && allB p l (i + s) (s * 2) && allB p r (i + s + s) (s * 2)
theorem allB_all {α : Type} {p : Nat → α → Bool} : ∀ {t : Tr α} {i s : Nat}, allB p t i s = true → AllP (fun i x => p i x = true) t i s
  | .nil, i, s, _ => trivial
  | .node l v r, i, s, h => by
    simp only [allB, Bool.and_eq_true] at h
    exact ⟨fun x e => by rw [e] at h; exact h.1.1, allB_all h.1.2, allB_all h.2⟩

/-! ### Types -/
def geq : Value → Value → Bool
  | .bool a, .bool b => a == b
  | .int k a, .int l b => decide (k = l) && (a == b)
  | .string a, .string b => Nat.beq a.data.toList.length 0 && Nat.beq b.data.toList.length 0
  | .pointer none, .pointer none => true
  | .slice none a b, .slice none c d => Nat.beq a c && Nat.beq b d
  | .map none, .map none => true
  | .nilFunc, .nilFunc => true
  | .nilIface, .nilIface => true
  | _, _ => false
def geqs : List Value → List Value → Bool
  | [], [] => true
  | a :: l, b :: m => geq a b && geqs l m
  | _, _ => false
theorem empty_string {a : ByteArray} (h : Nat.beq a.data.toList.length 0 = true) : a = ⟨#[]⟩ := by
  obtain ⟨⟨l⟩⟩ := a
  have : l = [] := List.length_eq_zero_iff.1 (Nat.eq_of_beq_eq_true h)
  rw [this]
theorem geq_eq {a b : Value} (h : geq a b = true) : a = b := by
  unfold geq at h
  split at h
  · rename_i a b
    have h : a = b := by simpa using h
    rw [h]
  · rename_i k a l b
    rw [Bool.and_eq_true] at h
    have h2 : a = b := by simpa using h.2
    rw [of_decide_eq_true h.1, h2]
  · rw [Bool.and_eq_true] at h
    rw [empty_string h.1, empty_string h.2]
  · rfl
  · rw [Bool.and_eq_true] at h
    rw [Nat.eq_of_beq_eq_true h.1, Nat.eq_of_beq_eq_true h.2]
  · rfl
  · rfl
  · rfl
  · cases h
theorem geqs_eq : ∀ {a b : List Value}, geqs a b = true → a = b
  | [], [], _ => rfl
  | a :: l, b :: m, h => by
    simp only [geqs, Bool.and_eq_true] at h
    rw [geq_eq h.1, geqs_eq h.2]
  | [], _ :: _, h => by cases h
  | _ :: _, [], h => by cases h
/-- A zero value, and the cells that are told of it. -/
def zok (agg : Bool) (z : Value) (l : List Value) : Bool := match agg, z, l with
  | true, .agg cs, l => geqs cs.toList l
  | false, z, [v] => geq z v
  | _, _, _ => false
def szB (P : Program) (t sz : Nat) : Bool := match P.info? t with
  | some I => Nat.beq I.size sz
  | none => false
def aggB (P : Program) (t : Nat) (b : Bool) : Bool := match P.underlying t with
  | some d => isRowD d == b
  | none => false
def fsB (P : Program) : List Field → List (Nat × Nat × Bool) → Bool
  | [], [] => true
  | f :: F, p :: fs => Nat.beq p.1 f.offset && szB P f.type p.2.1 && aggB P f.type p.2.2 && fsB P F fs
  | _, _ => false
def isIntD : Option TypeDesc → Bool
  | some (.int _) => true
  | _ => false
def kB (P : Program) (t : Nat) : K → Bool
  | .int k => match P.underlying t with | some (.int l) => decide (k = l) | _ => false
  | .slice e sz by_ => match P.underlying t, P.info? e with
    | some (.slice f), some I => Nat.beq e f && Nat.beq I.size sz && Nat.beq I.bytes by_ && (match I.zero with | some z => Nat.beq z.cells.size sz | none => false)
    | _, _ => false
  | .array n e sz agg => match P.underlying t with | some (.array m f) => Nat.beq n m && Nat.beq e f && szB P e sz && aggB P e agg | _ => false
  | .map k e => match P.underlying t with | some (.map l f) => Nat.beq k l && Nat.beq e f && isIntD (P.underlying k) | _ => false
  | .struct fs => match P.underlying t with | some (.struct F) => fsB P F.toList fs | _ => false
  | .string => match P.underlying t with | some .string => true | _ => false
  | .bool => match P.underlying t with | some .bool => true | _ => false
  | .ptr e => match P.underlying t with | some (.pointer f) => Nat.beq e f | _ => false
  | .func => match P.underlying t with | some (.func _ _ _) => true | _ => false
  | .other => true
def tyB (P : Program) (t : Nat) (i : TI) : Bool := match P.info? t with
  | some I => Nat.beq I.size i.size && (match I.zero with | some z => zok i.agg z i.zero | none => false) && i.zero.all gnd1 && aggB P t i.agg && kB P t i.k
  | none => false

section
variable {P : Program} {t : Nat}
theorem zok_eq {agg : Bool} {z : Value} {l : List Value} (h : zok agg z l = true) : z = (bif agg then .agg ⟨l⟩ else l.headD undef) := by
  unfold zok at h
  split at h
  · rename_i cs l'
    rw [← geqs_eq h]
    rfl
  · rw [geq_eq h]; rfl
  · cases h
theorem szB_ok {sz : Nat} (h : szB P t sz = true) : SzOK P t sz := by
  unfold szB at h
  split at h
  · rename_i I e
    exact ⟨I, e, Nat.eq_of_beq_eq_true h⟩
  · cases h
theorem aggB_ok {b : Bool} (h : aggB P t b = true) : AggOK P t b := by
  unfold aggB at h
  split at h
  · rename_i d e
    exact ⟨d, e, by simpa using h⟩
  · cases h
theorem fsB_ok : ∀ {F : List Field} {fs : List (Nat × Nat × Bool)}, fsB P F fs = true → F.length = fs.length ∧ ∀ (j : Nat) (p : Nat × Nat × Bool), fs[j]? = some p → ∃ f : Field, F[j]? = some f ∧ p.1 = f.offset ∧ SzOK P f.type p.2.1 ∧ AggOK P f.type p.2.2
  | [], [], _ => ⟨rfl, fun j p h => by simp at h⟩
  | f :: F, p :: fs, h => by
    simp only [fsB, Bool.and_eq_true] at h
    obtain ⟨⟨⟨h1, h2⟩, h3⟩, h4⟩ := h
    obtain ⟨k1, k2⟩ := fsB_ok h4
    refine ⟨by simp [k1], fun j q hq => ?_⟩
    cases j with
    | zero =>
      simp only [List.getElem?_cons_zero, Option.some.injEq] at hq
      subst hq
      exact ⟨f, rfl, Nat.eq_of_beq_eq_true h1, szB_ok h2, aggB_ok h3⟩
    | succ j => simpa using k2 j q (by simpa using hq)
  | [], _ :: _, h => by cases h
  | _ :: _, [], h => by cases h
theorem kB_ok {k : K} (h : kB P t k = true) : KOK P t k := by
  cases k with
  | int k =>
    simp only [kB] at h
    split at h
    · rename_i l e; rw [of_decide_eq_true h]; exact e
    · cases h
  | slice e sz by_ =>
    simp only [kB] at h
    split at h
    · rename_i f I e1 e2
      simp only [Bool.and_eq_true] at h
      obtain ⟨⟨⟨h1, h2⟩, h3⟩, h4⟩ := h
      have h1 := Nat.eq_of_beq_eq_true h1
      subst h1
      split at h4
      · rename_i z ez
        exact ⟨e1, I, z, e2, Nat.eq_of_beq_eq_true h2, Nat.eq_of_beq_eq_true h3, ez, Nat.eq_of_beq_eq_true h4⟩
      · cases h4
    · cases h
  | array n e sz agg =>
    simp only [kB] at h
    split at h
    · rename_i m f e1
      simp only [Bool.and_eq_true] at h
      obtain ⟨⟨⟨h1, h2⟩, h3⟩, h4⟩ := h
      have h1 := Nat.eq_of_beq_eq_true h1
      have h2 := Nat.eq_of_beq_eq_true h2
      subst h1
      subst h2
      exact ⟨e1, szB_ok h3, aggB_ok h4⟩
    · cases h
  | map k e =>
    simp only [kB] at h
    split at h
    · rename_i l f e1
      simp only [Bool.and_eq_true] at h
      obtain ⟨⟨h1, h2⟩, h3⟩ := h
      have h1 := Nat.eq_of_beq_eq_true h1
      have h2 := Nat.eq_of_beq_eq_true h2
      subst h1
      subst h2
      refine ⟨e1, ?_⟩
      unfold isIntD at h3
      split at h3
      · rename_i kk e3; exact ⟨kk, e3⟩
      · cases h3
    · cases h
  | struct fs =>
    simp only [kB] at h
    split at h
    · rename_i F e1
      obtain ⟨k1, k2⟩ := fsB_ok h
      exact ⟨F, e1, by simpa using k1, fun j p hp => by
        obtain ⟨f, hf, r⟩ := k2 j p hp
        exact ⟨f, by rw [← Array.getElem?_toList]; exact hf, r⟩⟩
    · cases h
  | string =>
    simp only [kB] at h
    split at h
    · rename_i e; exact e
    · cases h
  | bool =>
    simp only [kB] at h
    split at h
    · rename_i e; exact e
    · cases h
  | ptr e =>
    simp only [kB] at h
    split at h
    · rename_i f e1; rw [Nat.eq_of_beq_eq_true h]; exact e1
    · cases h
  | func =>
    simp only [kB] at h
    split at h
    · rename_i a b c e1; exact ⟨a, b, c, e1⟩
    · cases h
  | other => trivial
theorem tyB_ok {i : TI} (h : tyB P t i = true) : TyOK P t i := by
  unfold tyB at h
  split at h
  · rename_i I e
    simp only [Bool.and_eq_true] at h
    obtain ⟨⟨⟨⟨h1, h2⟩, h3⟩, h4⟩, h5⟩ := h
    split at h2
    · rename_i z ez
      have hz := zok_eq h2
      have hzo : zeroOf i = z := by rw [hz]; rfl
      refine ⟨⟨I, e, Nat.eq_of_beq_eq_true h1, by rw [hzo]; exact ez⟩, ?_, fun v hv => (List.all_eq_true.1 h3) v hv, aggB_ok h4, kB_ok h5⟩
      unfold zeroOf
      cases hag : i.agg with
      | true => rfl
      | false =>
        rw [hag] at h2
        cases hl : i.zero with
        | nil => rw [hl] at h2; exact absurd h2 (by simp [zok])
        | cons v l =>
          cases l with
          | cons v2 l => rw [hl] at h2; exact absurd h2 (by simp [zok])
          | nil =>
            have hg : gnd1 v = true := (List.all_eq_true.1 h3) v (by rw [hl]; simp)
            show v.cells.toList = [v]
            cases v <;> first | rfl | cases hg
    · cases h2
  · cases h
end
end Go.IM
