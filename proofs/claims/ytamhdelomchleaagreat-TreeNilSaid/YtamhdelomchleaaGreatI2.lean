/- The leaner machine: trees of digits, outcomes, and that a run hangs on what it reads alone. -/
import Derived.Test.YtamhdelomchleaaGreatI0
set_option linter.unusedVariables false
set_option linter.unusedSimpArgs false
namespace Go.IM

/-! ### Trees -/
theorem Tr.get_nil {α : Type} (n : Nat) : (Tr.nil : Tr α).get n = none := rfl
theorem Tr.get_node {α : Type} (l : Tr α) (v : Option α) (r : Tr α) (n : Nat) :
    (Tr.node l v r).get n = if n = 0 then v else if n % 2 = 1 then l.get (n / 2) else r.get (n / 2 - 1) := by
  show @Bool.rec (fun _ => Option α) (@Bool.rec (fun _ => Option α) (r.get (n / 2 - 1)) (l.get (n / 2)) (Nat.beq (n % 2) 1)) v (Nat.beq n 0) = _
  by_cases h : n = 0
  · subst h; rfl
  · have e : Nat.beq n 0 = false := by cases n; contradiction; rfl
    rw [e, if_neg h]
    by_cases h2 : n % 2 = 1
    · rw [if_pos h2, h2]; rfl
    · rw [if_neg h2, show n % 2 = 0 by omega]; rfl
theorem Tr.one_succ {α : Type} (f : Nat) (n : Nat) (x : Option α) :
    Tr.one (f + 1) n x = if n = 0 then .node .nil x .nil else if n % 2 = 1 then .node (Tr.one f (n / 2) x) none .nil else .node .nil none (Tr.one f (n / 2 - 1) x) := by
  show @Bool.rec (fun _ => Tr α) (@Bool.rec (fun _ => Tr α) (.node .nil none (Tr.one f (n / 2 - 1) x)) (.node (Tr.one f (n / 2) x) none .nil) (Nat.beq (n % 2) 1)) (.node .nil x .nil) (Nat.beq n 0) = _
  by_cases h : n = 0
  · subst h; rfl
  · have e : Nat.beq n 0 = false := by cases n; contradiction; rfl
    rw [e, if_neg h]
    by_cases h2 : n % 2 = 1
    · rw [if_pos h2, h2]; rfl
    · rw [if_neg h2, show n % 2 = 0 by omega]; rfl
theorem Tr.set_nil {α : Type} (f : Nat) (n : Nat) (x : Option α) : Tr.set f (.nil : Tr α) n x = Tr.one f n x := rfl
theorem Tr.set_node {α : Type} (f : Nat) (l : Tr α) (v : Option α) (r : Tr α) (n : Nat) (x : Option α) :
    Tr.set f (.node l v r) n x = if n = 0 then .node l x r else if n % 2 = 1 then .node (Tr.set f l (n / 2) x) v r else .node l v (Tr.set f r (n / 2 - 1) x) := by
  show @Bool.rec (fun _ => Tr α) (@Bool.rec (fun _ => Tr α) (.node l v (Tr.set f r (n / 2 - 1) x)) (.node (Tr.set f l (n / 2) x) v r) (Nat.beq (n % 2) 1)) (.node l x r) (Nat.beq n 0) = _
  by_cases h : n = 0
  · subst h; rfl
  · have e : Nat.beq n 0 = false := by cases n; contradiction; rfl
    rw [e, if_neg h]
    by_cases h2 : n % 2 = 1
    · rw [if_pos h2, h2]; rfl
    · rw [if_neg h2, show n % 2 = 0 by omega]; rfl

theorem Tr.get_key {α : Type} {n m : Nat} {x : Option α} {l r l' r' : Tr α} {v : Option α} (hl : n ≠ 0 → n % 2 = 1 → ∀ m, l'.get m = if m = n / 2 then x else l.get m) (hr : n ≠ 0 → n % 2 ≠ 1 → ∀ m, r'.get m = if m = n / 2 - 1 then x else r.get m) :
    (if n = 0 then Tr.node l x r else if n % 2 = 1 then .node l' v r else .node l v r').get m = if m = n then x else (Tr.node l v r).get m := by
  by_cases h0 : n = 0
  · subst h0
    rw [if_pos rfl, get_node, get_node]
    by_cases hm : m = 0
    · simp [hm]
    · simp [hm]
  · rw [if_neg h0]
    by_cases h1 : n % 2 = 1
    · rw [if_pos h1, get_node, get_node]
      by_cases hm : m = 0
      · subst hm; simp [Ne.symm h0]
      · simp only [if_neg hm]
        by_cases hm1 : m % 2 = 1
        · simp only [if_pos hm1]
          rw [hl h0 h1]
          by_cases e : m = n
          · subst e; simp
          · have : m / 2 ≠ n / 2 := by omega
            simp [e, this]
        · simp only [if_neg hm1]
          have : m ≠ n := by intro e; subst e; exact hm1 h1
          simp [this]
    · rw [if_neg h1, get_node, get_node]
      by_cases hm : m = 0
      · subst hm; simp [Ne.symm h0]
      · simp only [if_neg hm]
        by_cases hm1 : m % 2 = 1
        · simp only [if_pos hm1]
          have : m ≠ n := by intro e; subst e; exact h1 hm1
          simp [this]
        · simp only [if_neg hm1]
          rw [hr h0 h1]
          by_cases e : m = n
          · subst e; simp
          · have : m / 2 - 1 ≠ n / 2 - 1 := by omega
            simp [e, this]

theorem Tr.get_one {α : Type} : ∀ (f n m : Nat) (x : Option α), n + 1 < 2 ^ f → (Tr.one f n x).get m = if m = n then x else none := by
  intro f
  induction f with
  | zero => intro n m x h; simp at h
  | succ f ih =>
    intro n m x h
    have hp : 2 ^ (f + 1) = 2 * 2 ^ f := by rw [Nat.pow_succ]; omega
    rw [Tr.one_succ, Tr.get_key (l := .nil) (r := .nil) (v := none)]
    · rw [get_node]; simp only [get_nil, ite_self]
    · intro h0 h1 m
      rw [ih _ _ _ (by omega), get_nil]
    · intro h0 h1 m
      rw [ih _ _ _ (by omega), get_nil]

theorem Tr.get_set {α : Type} (f : Nat) (t : Tr α) (n m : Nat) (x : Option α) (h : n + 1 < 2 ^ f) : (Tr.set f t n x).get m = if m = n then x else t.get m := by
  induction t generalizing n m with
  | nil => rw [Tr.set_nil, Tr.get_one f n m x h]; rfl
  | node l v r ihl ihr =>
    rw [Tr.set_node, Tr.get_key]
    · intro h0 h1 m
      exact ihl _ _ (by omega)
    · intro h0 h1 m
      exact ihr _ _ (by omega)

theorem Tr.get_set20 {α : Type} (t : Tr α) (n m : Nat) (x : Option α) (h : n < 65536) : (Tr.set 20 t n x).get m = if m = n then x else t.get m :=
  Tr.get_set 20 t n m x (by have : (2 : Nat) ^ 20 = 1048576 := rfl; omega)

/-! ### Digits -/
theorem tb_lor (a b k : Nat) : (Nat.lor a b).testBit k = (a.testBit k || b.testBit k) := Nat.testBit_or a b k
theorem tb_land (a b k : Nat) : (Nat.land a b).testBit k = (a.testBit k && b.testBit k) := Nat.testBit_and a b k
theorem tb_one (i k : Nat) : (Nat.shiftLeft 1 i).testBit k = decide (i = k) := by
  show (1 <<< i).testBit k = _
  rw [Nat.one_shiftLeft, Nat.testBit_two_pow]
theorem tb_zero (k : Nat) : (0 : Nat).testBit k = false := Nat.zero_testBit k
theorem tb_mod (w i : Nat) : (Nat.beq (Nat.mod (Nat.shiftRight w i) 2) 1) = w.testBit i := by
  have h : w.testBit i = decide ((w >>> i) % 2 = 1) := by
    rw [Nat.testBit_eq_decide_div_mod_eq, Nat.shiftRight_eq_div_pow]
  rw [h]
  show Nat.beq ((w >>> i) % 2) 1 = _
  rcases Nat.mod_two_eq_zero_or_one (w >>> i) with e | e <;> rw [e] <;> rfl

/-! ### Outcomes -/
theorem Res.add_fail {α : Type} (r w : Nat) : (Res.fail : Res α).add r w = .fail := rfl
theorem Res.add_ok {α : Type} (r w : Nat) (a : α) (h : Tr AObj) (n r1 w1 : Nat) : (Res.ok a h n r1 w1).add r w = .ok a h n (Nat.lor r r1) (Nat.lor w w1) := rfl
theorem Res.add_alt {α : Type} (r w : Nat) (x y : Res α) : (Res.alt x y).add r w = .alt (x.add r w) (y.add r w) := rfl
theorem Res.bind_fail {α β : Type} (k : α → Tr AObj → Nat → Res β) : Res.bind k .fail = .fail := rfl
theorem Res.bind_ok {α β : Type} (k : α → Tr AObj → Nat → Res β) (a : α) (h : Tr AObj) (n r w : Nat) : Res.bind k (.ok a h n r w) = (k a h n).add r w := rfl
theorem Res.bind_alt {α β : Type} (k : α → Tr AObj → Nat → Res β) (x y : Res α) : Res.bind k (.alt x y) = .alt (Res.bind k x) (Res.bind k y) := rfl

/-- All outcomes are such, and there is none that fails. -/
def Res.All {α : Type} (P : α → Tr AObj → Nat → Prop) : Res α → Prop
  | .fail => False
  | .ok a h n _ _ => P a h n
  | .alt x y => x.All P ∧ y.All P

theorem Res.All.mono {α : Type} {P Q : α → Tr AObj → Nat → Prop} (h : ∀ a g n, P a g n → Q a g n) : ∀ {x : Res α}, x.All P → x.All Q
  | .fail, hx => hx
  | .ok _ _ _ _ _, hx => h _ _ _ hx
  | .alt _ _, hx => ⟨Res.All.mono h hx.1, Res.All.mono h hx.2⟩
theorem Res.all_add {α : Type} {P : α → Tr AObj → Nat → Prop} (r w : Nat) : ∀ {x : Res α}, (x.add r w).All P ↔ x.All P
  | .fail => Iff.rfl
  | .ok _ _ _ _ _ => Iff.rfl
  | .alt _ _ => and_congr (Res.all_add r w) (Res.all_add r w)
theorem Res.all_bind {α β : Type} {P : β → Tr AObj → Nat → Prop} (k : α → Tr AObj → Nat → Res β) : ∀ {x : Res α}, (Res.bind k x).All P ↔ x.All fun a h n => (k a h n).All P
  | .fail => Iff.rfl
  | .ok _ _ _ _ _ => Res.all_add _ _
  | .alt _ _ => and_congr (Res.all_bind k) (Res.all_bind k)
theorem Res.all_some {α : Type} {P : α → Tr AObj → Nat → Prop} : ∀ {x : Res α}, x.All P → ∃ a h n, P a h n
  | .fail, h => h.elim
  | .ok a g n _ _, h => ⟨a, g, n, h⟩
  | .alt x _, h => Res.all_some h.1
theorem Res.all_and {α : Type} {P Q : α → Tr AObj → Nat → Prop} : ∀ {x : Res α}, x.All P → x.All Q → x.All fun a h n => P a h n ∧ Q a h n
  | .fail, h, _ => h
  | .ok _ _ _ _ _, h, k => ⟨h, k⟩
  | .alt _ _, h, k => ⟨Res.all_and h.1 k.1, Res.all_and h.2 k.2⟩

/-- A run does well, and comes to such. -/
def MW {α : Type} (m : M α) (h : Tr AObj) (n : Nat) (Q : α → Tr AObj → Nat → Prop) : Prop := (m h n).All Q
theorem MW.mono {α : Type} {m : M α} {h : Tr AObj} {n : Nat} {Q Q' : α → Tr AObj → Nat → Prop} (hm : MW m h n Q) (hq : ∀ a g k, Q a g k → Q' a g k) : MW m h n Q' := Res.All.mono hq hm
theorem MW.bind {α β : Type} {m : M α} {f : α → M β} {h : Tr AObj} {n : Nat} {Q : β → Tr AObj → Nat → Prop} : MW (M.bind m f) h n Q ↔ MW m h n fun a h n => MW (f a) h n Q := Res.all_bind _
theorem MW.pure {α : Type} {a : α} {h : Tr AObj} {n : Nat} {Q : α → Tr AObj → Nat → Prop} : MW (M.pure a) h n Q ↔ Q a h n := Iff.rfl
theorem MW.fail {α : Type} {h : Tr AObj} {n : Nat} {Q : α → Tr AObj → Nat → Prop} : MW (M.fail : M α) h n Q ↔ False := Iff.rfl
theorem MW.opt {α β : Type} {o : Option α} {k : α → M β} {h : Tr AObj} {n : Nat} {Q : β → Tr AObj → Nat → Prop} : MW (M.opt o k) h n Q ↔ ∃ a, o = some a ∧ MW (k a) h n Q := by
  cases o with
  | none => exact ⟨fun h => h.elim, fun ⟨_, e, _⟩ => by cases e⟩
  | some a => exact ⟨fun h => ⟨a, rfl, h⟩, fun ⟨_, e, h⟩ => by cases e; exact h⟩
theorem MW.grd {β : Type} {b : Bool} {k : Unit → M β} {h : Tr AObj} {n : Nat} {Q : β → Tr AObj → Nat → Prop} : MW (M.grd b k) h n Q ↔ b = true ∧ MW (k ()) h n Q := by
  cases b with
  | false => exact ⟨fun h => h.elim, fun h => by cases h.1⟩
  | true => exact ⟨fun h => ⟨rfl, h⟩, fun h => h.2⟩
theorem MW.rd {i : Nat} {h : Tr AObj} {n : Nat} {Q : AObj → Tr AObj → Nat → Prop} : MW (M.rd i) h n Q ↔ ∃ o, h.get i = some o ∧ Q o h n := by
  unfold MW M.rd
  cases e : h.get i with
  | none => exact ⟨fun h => h.elim, fun ⟨_, e, _⟩ => by cases e⟩
  | some o => exact ⟨fun h => ⟨o, rfl, h⟩, fun ⟨_, e, h⟩ => by cases e; exact h⟩
theorem MW.wr {i : Nat} {o : AObj} {h : Tr AObj} {n : Nat} {Q : Unit → Tr AObj → Nat → Prop} : MW (M.wr i o) h n Q ↔ (∃ o', h.get i = some o') ∧ i < 65536 ∧ Q () (h.set 20 i (some o)) n := by
  unfold MW M.wr
  cases e : h.get i with
  | none => exact ⟨fun h => h.elim, fun ⟨⟨_, e⟩, _⟩ => by cases e⟩
  | some o' =>
    cases hb : Nat.blt i 65536 with
    | false => exact ⟨fun h => h.elim, fun h => by have : Nat.blt i 65536 = true := by simp [Nat.blt_eq, h.2.1]
                                                   rw [this] at hb; cases hb⟩
    | true => exact ⟨fun h => ⟨⟨o', rfl⟩, by simpa [Nat.blt_eq] using hb, h⟩, fun h => h.2.2⟩
theorem MW.kill {i : Nat} {h : Tr AObj} {n : Nat} {Q : Unit → Tr AObj → Nat → Prop} : MW (M.kill i) h n Q ↔ (∃ o', h.get i = some o') ∧ i < 65536 ∧ Q () (h.set 20 i none) n := by
  unfold MW M.kill
  cases e : h.get i with
  | none => exact ⟨fun h => h.elim, fun ⟨⟨_, e⟩, _⟩ => by cases e⟩
  | some o' =>
    cases hb : Nat.blt i 65536 with
    | false => exact ⟨fun h => h.elim, fun h => by have : Nat.blt i 65536 = true := by simp [Nat.blt_eq, h.2.1]
                                                   rw [this] at hb; cases hb⟩
    | true => exact ⟨fun h => ⟨⟨o', rfl⟩, by simpa [Nat.blt_eq] using hb, h⟩, fun h => h.2.2⟩
theorem MW.new {o : AObj} {h : Tr AObj} {n : Nat} {Q : Nat → Tr AObj → Nat → Prop} : MW (M.new o) h n Q ↔ h.get n = none ∧ n < 65536 ∧ Q n (h.set 20 n (some o)) (n + 1) := by
  unfold MW M.new
  cases e : h.get n with
  | some _ => exact ⟨fun h => h.elim, fun h => by cases h.1⟩
  | none =>
    cases hb : Nat.blt n 65536 with
    | false => exact ⟨fun h => h.elim, fun h => by have : Nat.blt n 65536 = true := by simp [Nat.blt_eq, h.2.1]
                                                   rw [this] at hb; cases hb⟩
    | true => exact ⟨fun h => ⟨rfl, by simpa [Nat.blt_eq] using hb, h⟩, fun h => h.2.2⟩
theorem MW.amb {α : Type} : ∀ {l : List α} {h : Tr AObj} {n : Nat} {Q : α → Tr AObj → Nat → Prop}, MW (M.amb l) h n Q → ∀ a ∈ l, Q a h n
  | [], _, _, _, hm => hm.elim
  | [a], _, _, _, hm => fun b hb => by obtain rfl := List.mem_singleton.1 hb; exact hm
  | a :: b :: as, h, n, Q, hm => fun c hc => by
    rcases List.mem_cons.1 hc with rfl | hc
    · exact hm.1
    · exact MW.amb (l := b :: as) hm.2 c hc

/-! ### A run hangs on what it reads alone -/
/-- What is read or written in any outcome. -/
def Res.foot {α : Type} : Res α → Nat
  | .fail => 0
  | .ok _ _ _ r w => Nat.lor r w
  | .alt x y => Nat.lor x.foot y.foot

/-- In every outcome that is one: the names go on, and what isn't written stays. -/
def Res.Fr {α : Type} (h : Tr AObj) (n : Nat) : Res α → Prop
  | .fail => True
  | .ok _ g m _ w => n ≤ m ∧ ∀ k, w.testBit k = false → g.get k = h.get k
  | .alt x y => x.Fr h n ∧ y.Fr h n

/-- The second does as the first, where that does well. -/
def Res.Sim {α : Type} : Res α → Res α → Prop
  | .fail, _ => True
  | .ok a h n r w, y => ∃ g, y = .ok a g n r w ∧ ∀ k, w.testBit k = true → g.get k = h.get k
  | .alt x y, z => ∃ x' y', z = .alt x' y' ∧ x.Sim x' ∧ y.Sim y'

/-- There is no outcome that fails. -/
def Res.Full {α : Type} : Res α → Prop
  | .fail => False
  | .ok .. => True
  | .alt x y => x.Full ∧ y.Full

structure Loc {α : Type} (m : M α) : Prop where
  fr : ∀ h n, (m h n).Fr h n
  sim : ∀ h g n, (m h n).Full → (∀ k, (m h n).foot.testBit k = true → g.get k = h.get k) → (m h n).Sim (m g n)

theorem Res.foot_add_of {α : Type} (r w : Nat) : ∀ (x : Res α) (k : Nat), x.foot.testBit k = true → (x.add r w).foot.testBit k = true
  | .fail, k, h => by simp [Res.foot, tb_zero] at h
  | .ok _ _ _ r1 w1, k, h => by
    rw [Res.add_ok]
    simp only [Res.foot, tb_lor, Bool.or_eq_true] at h ⊢
    rcases h with h | h <;> simp [h]
  | .alt x y, k, h => by
    rw [Res.add_alt]
    simp only [Res.foot, tb_lor, Bool.or_eq_true] at h ⊢
    rcases h with h | h
    · exact .inl (Res.foot_add_of r w x k h)
    · exact .inr (Res.foot_add_of r w y k h)
theorem Res.foot_add_mask {α : Type} (r w : Nat) : ∀ (x : Res α) (k : Nat), x.Full → (r.testBit k = true ∨ w.testBit k = true) → (x.add r w).foot.testBit k = true
  | .fail, k, hx, h => hx.elim
  | .ok _ _ _ r1 w1, k, hx, h => by
    rw [Res.add_ok]
    simp only [Res.foot, tb_lor, Bool.or_eq_true]
    rcases h with h | h <;> simp [h]
  | .alt x y, k, hx, h => by
    rw [Res.add_alt]
    simp only [Res.foot, tb_lor, Bool.or_eq_true]
    exact .inl (Res.foot_add_mask r w x k hx.1 h)
theorem Res.full_add {α : Type} (r w : Nat) : ∀ {x : Res α}, (x.add r w).Full ↔ x.Full
  | .fail => Iff.rfl
  | .ok _ _ _ _ _ => Iff.rfl
  | .alt _ _ => and_congr (Res.full_add r w) (Res.full_add r w)
theorem Res.full_bind {α β : Type} {k : α → Tr AObj → Nat → Res β} : ∀ {x : Res α}, (Res.bind k x).Full → x.Full
  | .fail, h => h
  | .ok _ _ _ _ _, _ => trivial
  | .alt _ _, h => ⟨Res.full_bind h.1, Res.full_bind h.2⟩
theorem Res.foot_bind {α β : Type} {k : α → Tr AObj → Nat → Res β} : ∀ {x : Res α} {i : Nat}, (Res.bind k x).Full → x.foot.testBit i = true → (Res.bind k x).foot.testBit i = true
  | .fail, i, _, h => by simp [Res.foot, tb_zero] at h
  | .ok _ _ _ _ _, i, hf, h => by
    rw [Res.bind_ok] at hf ⊢
    refine Res.foot_add_mask _ _ _ _ ((Res.full_add _ _).1 hf) ?_
    simpa only [Res.foot, tb_lor, Bool.or_eq_true] using h
  | .alt x y, i, hf, h => by
    rw [Res.bind_alt] at hf ⊢
    simp only [Res.foot, tb_lor, Bool.or_eq_true] at h ⊢
    rcases h with h | h
    · exact .inl (Res.foot_bind hf.1 h)
    · exact .inr (Res.foot_bind hf.2 h)
theorem Res.All.full {α : Type} {P : α → Tr AObj → Nat → Prop} : ∀ {x : Res α}, x.All P → x.Full
  | .fail, h => h
  | .ok _ _ _ _ _, _ => trivial
  | .alt _ _, h => ⟨Res.All.full h.1, Res.All.full h.2⟩

theorem Res.Fr.add {α : Type} {h0 h1 : Tr AObj} {n0 n1 r w : Nat} (hn : n0 ≤ n1) (hw : ∀ k, w.testBit k = false → h1.get k = h0.get k) : ∀ {x : Res α}, x.Fr h1 n1 → (x.add r w).Fr h0 n0
  | .fail, _ => trivial
  | .ok a g m r1 w1, hx => by
    refine ⟨Nat.le_trans hn hx.1, fun k hk => ?_⟩
    simp only [tb_lor, Bool.or_eq_false_iff] at hk
    exact (hx.2 k hk.2).trans (hw k hk.1)
  | .alt x y, hx => ⟨Res.Fr.add hn hw hx.1, Res.Fr.add hn hw hx.2⟩

theorem Res.Fr.bind {α β : Type} {k : α → Tr AObj → Nat → Res β} (hk : ∀ a h n, (k a h n).Fr h n) {h0 : Tr AObj} {n0 : Nat} : ∀ {x : Res α}, x.Fr h0 n0 → (Res.bind k x).Fr h0 n0
  | .fail, _ => trivial
  | .ok a g m r1 w1, hx => Res.Fr.add hx.1 hx.2 (hk a g m)
  | .alt x y, hx => ⟨Res.Fr.bind hk hx.1, Res.Fr.bind hk hx.2⟩

theorem Res.Sim.add {α : Type} {h1 g1 : Tr AObj} {n1 r w : Nat} (hw : ∀ k, w.testBit k = true → g1.get k = h1.get k) : ∀ {x y : Res α}, x.Fr h1 n1 → y.Fr g1 n1 → x.Sim y → (x.add r w).Sim (y.add r w)
  | .fail, _, _, _, _ => trivial
  | .ok a h n r1 w1, y, fx, fy, hs => by
    obtain ⟨g, rfl, hg⟩ := hs
    refine ⟨g, rfl, fun k hk => ?_⟩
    simp only [tb_lor, Bool.or_eq_true] at hk
    by_cases e : w1.testBit k = true
    · exact hg k e
    · have e' : w1.testBit k = false := by simpa using e
      rw [fx.2 k e', fy.2 k e']
      exact hw k (hk.resolve_right e)
  | .alt x x2, z, fx, fy, hs => by
    obtain ⟨y, y2, rfl, s1, s2⟩ := hs
    exact ⟨_, _, rfl, Res.Sim.add hw fx.1 fy.1 s1, Res.Sim.add hw fx.2 fy.2 s2⟩

theorem Res.Sim.bind {α β : Type} {k : α → Tr AObj → Nat → Res β} (kf : ∀ a h n, (k a h n).Fr h n)
    (ks : ∀ a h g n, (k a h n).Full → (∀ i, (k a h n).foot.testBit i = true → g.get i = h.get i) → (k a h n).Sim (k a g n)) {h0 g0 : Tr AObj} {n0 : Nat} :
    ∀ {x y : Res α}, x.Fr h0 n0 → y.Fr g0 n0 → x.Sim y → (Res.bind k x).Full → (∀ i, (Res.bind k x).foot.testBit i = true → g0.get i = h0.get i) → (Res.bind k x).Sim (Res.bind k y)
  | .fail, _, _, _, _, _, _ => trivial
  | .ok a h n r w, y, fx, fy, hs, hF, hf => by
    obtain ⟨g, rfl, hg⟩ := hs
    rw [Res.bind_ok, Res.bind_ok]
    refine Res.Sim.add hg (kf a h n) (kf a g n) (ks a h g n ((Res.full_add _ _).1 hF) fun i hi => ?_)
    by_cases e : w.testBit i = true
    · exact hg i e
    · have e' : w.testBit i = false := by simpa using e
      rw [fx.2 i e', fy.2 i e']
      exact hf i (Res.foot_add_of _ _ _ _ hi)
  | .alt x x2, z, fx, fy, hs, hF, hf => by
    obtain ⟨y, y2, rfl, s1, s2⟩ := hs
    refine ⟨_, _, rfl, Res.Sim.bind kf ks fx.1 fy.1 s1 hF.1 fun i hi => hf i ?_, Res.Sim.bind kf ks fx.2 fy.2 s2 hF.2 fun i hi => hf i ?_⟩
    · rw [Res.bind_alt]; simp only [Res.foot, tb_lor, hi, Bool.true_or]
    · rw [Res.bind_alt]; simp only [Res.foot, tb_lor, hi, Bool.or_true]

namespace Loc
variable {α β : Type}
theorem pure (a : α) : Loc (M.pure a) := ⟨fun h n => ⟨Nat.le_refl _, fun _ _ => rfl⟩, fun h g n _ _ => ⟨g, rfl, fun k hk => by simp [tb_zero] at hk⟩⟩
theorem fail : Loc (M.fail : M α) := ⟨fun h n => trivial, fun h g n hF _ => hF.elim⟩
theorem bind {m : M α} {f : α → M β} (hm : Loc m) (hf : ∀ a, Loc (f a)) : Loc (M.bind m f) :=
  ⟨fun h n => Res.Fr.bind (fun a h n => (hf a).fr h n) (hm.fr h n), fun h g n hF ha =>
    Res.Sim.bind (fun a h n => (hf a).fr h n) (fun a h g n => (hf a).sim h g n) (hm.fr h n) (hm.fr g n) (hm.sim h g n (Res.full_bind hF) fun k hk => ha k (Res.foot_bind hF hk)) hF ha⟩
theorem opt {o : Option α} {f : α → M β} (hf : ∀ a, Loc (f a)) : Loc (M.opt o f) := by
  cases o with
  | none => exact fail
  | some a => exact hf a
theorem grd {b : Bool} {f : Unit → M β} (hf : Loc (f ())) : Loc (M.grd b f) := by
  cases b with
  | false => exact fail
  | true => exact hf
theorem ite {b : Bool} {x y : M β} (hx : Loc x) (hy : Loc y) : Loc (bif b then x else y) := by cases b <;> assumption
theorem amb : ∀ (l : List α), Loc (M.amb l)
  | [] => fail
  | [a] => pure a
  | a :: b :: as => ⟨fun h n => ⟨⟨Nat.le_refl _, fun _ _ => rfl⟩, (amb (b :: as)).fr h n⟩, fun h g n hF ha =>
      ⟨_, _, rfl, ⟨g, rfl, fun k hk => by simp [tb_zero] at hk⟩, (amb (b :: as)).sim h g n hF.2 fun k hk => ha k (by
        show (Nat.lor _ _).testBit k = true
        rw [tb_lor, hk, Bool.or_true])⟩⟩
theorem rd (i : Nat) : Loc (M.rd i) := by
  constructor
  · intro h n
    unfold M.rd
    cases h.get i with
    | none => trivial
    | some o => exact ⟨Nat.le_refl _, fun _ _ => rfl⟩
  · intro h g n hF ha
    unfold M.rd at *
    cases e : h.get i with
    | none => rw [e] at hF; exact hF.elim
    | some o =>
      rw [e] at ha
      have := ha i (by simp [Res.foot, tb_lor, tb_one])
      rw [this, e]
      exact ⟨g, rfl, fun k hk => by simp [tb_zero] at hk⟩
theorem put_aux (i : Nat) (o : Option AObj) (m : M Unit) (hm : ∀ h n, m h n = match h.get i with
    | none => .fail
    | some _ => bif Nat.blt i 65536 then .ok () (h.set 20 i o) n 0 (Nat.shiftLeft 1 i) else .fail) : Loc m := by
  constructor
  · intro h n
    rw [hm]
    cases h.get i with
    | none => trivial
    | some o' =>
      cases hb : Nat.blt i 65536 with
      | false => trivial
      | true =>
        have hi : i < 65536 := by simpa [Nat.blt_eq] using hb
        refine ⟨Nat.le_refl _, fun k hk => ?_⟩
        rw [tb_one] at hk
        rw [Tr.get_set20 _ _ _ _ hi, if_neg (by intro e; subst e; simp at hk)]
  · intro h g n hF ha
    rw [hm] at hF ha
    rw [hm, hm]
    cases e : h.get i with
    | none => rw [e] at hF; exact hF.elim
    | some o' =>
      rw [e] at ha hF
      cases hb : Nat.blt i 65536 with
      | false => simp only [hb, cond_false] at hF; exact hF.elim
      | true =>
        simp only [hb, cond_true] at ha ⊢
        have hi : i < 65536 := by simpa [Nat.blt_eq] using hb
        have := ha i (by simp [Res.foot, tb_lor, tb_one])
        rw [this, e]
        refine ⟨_, rfl, fun k hk => ?_⟩
        rw [tb_one] at hk
        rw [Tr.get_set20 _ _ _ _ hi, Tr.get_set20 _ _ _ _ hi, if_pos (by simpa [eq_comm] using hk), if_pos (by simpa [eq_comm] using hk)]
theorem wr (i : Nat) (o : AObj) : Loc (M.wr i o) := put_aux i (some o) _ fun _ _ => rfl
theorem kill (i : Nat) : Loc (M.kill i) := put_aux i none _ fun _ _ => rfl
theorem new (o : AObj) : Loc (M.new o) := by
  constructor
  · intro h n
    unfold M.new
    cases h.get n with
    | some _ => trivial
    | none =>
      cases hb : Nat.blt n 65536 with
      | false => trivial
      | true =>
        have hi : n < 65536 := by simpa [Nat.blt_eq] using hb
        refine ⟨Nat.le_succ _, fun k hk => ?_⟩
        rw [tb_one] at hk
        rw [Tr.get_set20 _ _ _ _ hi, if_neg (by intro e; subst e; simp at hk)]
  · intro h g n hF ha
    unfold M.new at *
    cases e : h.get n with
    | some _ => rw [e] at hF; exact hF.elim
    | none =>
      rw [e] at ha hF
      cases hb : Nat.blt n 65536 with
      | false => simp only [hb, cond_false] at hF; exact hF.elim
      | true =>
        simp only [hb, cond_true] at ha ⊢
        have hi : n < 65536 := by simpa [Nat.blt_eq] using hb
        have := ha n (by simp [Res.foot, tb_lor, tb_one])
        rw [this, e]
        refine ⟨_, rfl, fun k hk => ?_⟩
        rw [tb_one] at hk
        rw [Tr.get_set20 _ _ _ _ hi, Tr.get_set20 _ _ _ _ hi, if_pos (by simpa [eq_comm] using hk), if_pos (by simpa [eq_comm] using hk)]
end Loc

/-! ### Outcomes made one -/
theorem veq_eq : ∀ f, (∀ x y, veq f x y = true → x = y) ∧ (∀ xs ys, veqs f xs ys = true → xs = ys)
  | 0 => ⟨fun x y h => by simp [veq] at h, fun xs ys h => by simp [veqs] at h⟩
  | f + 1 => by
    have ih := veq_eq f
    refine ⟨fun x y h => ?_, fun xs ys h => ?_⟩
    · unfold veq at h
      split at h <;> simp_all [Nat.beq_eq]
      · exact Array.ext' (ih.2 _ _ h)
      · exact Array.ext' (ih.2 _ _ h)
    · unfold veqs at h
      split at h <;> simp_all
      exact ⟨ih.1 _ _ h.1, ih.2 _ _ h.2⟩

theorem oeq_eq {a b : Option AObj} (h : oeq a b = true) : a = b := by
  unfold oeq at h
  split at h
  · rename_i x t y u
    simp only [Bool.and_eq_true, Nat.beq_eq] at h
    rw [h.1, (veq_eq 1000).2 _ _ h.2]
  · cases h

theorem get_merge (w : Nat) : ∀ (a b : Tr AObj) (i s m : Nat),
    (w.testBit (i + s * m) = true → (mergeT w a b i s).get m = bif oeq (a.get m) (b.get m) then a.get m else none) ∧
    (w.testBit (i + s * m) = false → b.get m = a.get m → (mergeT w a b i s).get m = a.get m) := by
  intro a
  induction a with
  | nil =>
    intro b i s m
    refine ⟨fun _ => ?_, fun _ h => ?_⟩ <;> simp [mergeT, Tr.get_nil, oeq]
  | node l v r ihl ihr =>
    intro b i s m
    cases b with
    | nil =>
      refine ⟨fun _ => ?_, fun _ h => ?_⟩
      · simp only [mergeT, Tr.get_nil]
        cases (Tr.node l v r).get m with
        | none => rfl
        | some o => cases o <;> rfl
      · simp only [mergeT, Tr.get_nil] at h ⊢
        exact h
    | node l' v' r' =>
      simp only [mergeT, Tr.get_node]
      by_cases h0 : m = 0
      · subst h0
        simp only [Nat.mul_zero, Nat.add_zero, if_true, tb_mod]
        refine ⟨fun h => by rw [h]; rfl, fun h _ => by rw [h]; rfl⟩
      · simp only [if_neg h0]
        by_cases h1 : m % 2 = 1
        · simp only [if_pos h1]
          have e : i + s * m = i + s + s * 2 * (m / 2) := by
            have : m = 2 * (m / 2) + 1 := by omega
            rw [this, Nat.mul_add, Nat.mul_assoc]
            have e2 : (2 * (m / 2) + 1) / 2 = m / 2 := by omega
            rw [e2]
            omega
          rw [e]
          exact ihl l' _ _ _
        · simp only [if_neg h1]
          have e : i + s * m = i + s + s + s * 2 * (m / 2 - 1) := by
            have : m = 2 * (m / 2 - 1) + 2 := by omega
            rw [this, Nat.mul_add, Nat.mul_assoc]
            have e2 : (2 * (m / 2 - 1) + 2) / 2 - 1 = m / 2 - 1 := by omega
            rw [e2]
            omega
          rw [e]
          exact ihr r' _ _ _

theorem get_merge0 (w : Nat) (a b : Tr AObj) (m : Nat) :
    (w.testBit m = true → (mergeT w a b 0 1).get m = bif oeq (a.get m) (b.get m) then a.get m else none) ∧
    (w.testBit m = false → b.get m = a.get m → (mergeT w a b 0 1).get m = a.get m) := by
  have := get_merge w a b 0 1 m
  simpa using this

/-- What is in the one is in the other. -/
def SubT (a b : Tr AObj) : Prop := ∀ k o, a.get k = some o → b.get k = some o
theorem SubT.refl (a : Tr AObj) : SubT a a := fun _ _ h => h
theorem SubT.trans {a b c : Tr AObj} (h : SubT a b) (k : SubT b c) : SubT a c := fun i o e => k i o (h i o e)

theorem merge_sub {w w1 w2 : Nat} {h a b : Tr AObj} (hw : w = Nat.lor w1 w2) (ha : ∀ k, w1.testBit k = false → a.get k = h.get k) (hb : ∀ k, w2.testBit k = false → b.get k = h.get k) :
    SubT (mergeT w a b 0 1) a ∧ SubT (mergeT w a b 0 1) b := by
  have key : ∀ k o, (mergeT w a b 0 1).get k = some o → a.get k = some o ∧ b.get k = some o := by
    intro k o e
    have := get_merge0 w a b k
    cases hk : w.testBit k with
    | true =>
      rw [this.1 hk] at e
      cases hq : oeq (a.get k) (b.get k) with
      | false => rw [hq] at e; cases e
      | true =>
        rw [hq] at e
        have h2 := oeq_eq hq
        have e' : a.get k = some o := e
        exact ⟨e', by rw [← h2]; exact e'⟩
    | false =>
      have hk2 := hk
      rw [hw, tb_lor, Bool.or_eq_false_iff] at hk2
      have hab : b.get k = a.get k := by rw [ha k hk2.1, hb k hk2.2]
      rw [this.2 hk hab] at e
      exact ⟨e, by rw [hab]; exact e⟩
  exact ⟨fun k o e => (key k o e).1, fun k o e => (key k o e).2⟩

theorem merge2_ok {x y : Res Value} {a : Value} {g : Tr AObj} {m r w : Nat} (h : merge2 x y = .ok a g m r w) :
    ∃ h1 h2 r1 w1 r2 w2, x = .ok a h1 m r1 w1 ∧ y = .ok a h2 m r2 w2 ∧ g = mergeT (Nat.lor w1 w2) h1 h2 0 1 ∧ r = Nat.lor r1 r2 ∧ w = Nat.lor w1 w2 := by
  unfold merge2 at h
  split at h
  · rename_i a1 h1 n1 r1 w1 b1 h2 n2 r2 w2
    cases hc : (veq 1000 a1 b1 && Nat.beq n1 n2) with
    | false => rw [hc] at h; cases h
    | true =>
      rw [hc] at h
      simp only [cond_true, Res.ok.injEq] at h
      obtain ⟨rfl, rfl, rfl, rfl, rfl⟩ := h
      rw [Bool.and_eq_true] at hc
      have e1 := (veq_eq 1000).1 _ _ hc.1
      have e2 := Nat.eq_of_beq_eq_true hc.2
      subst e1
      subst e2
      exact ⟨h1, h2, r1, w1, r2, w2, rfl, rfl, rfl, rfl, rfl⟩
  · cases h

theorem merge2_fr {h : Tr AObj} {n : Nat} {x y : Res Value} (hx : x.Fr h n) (hy : y.Fr h n) : (merge2 x y).Fr h n := by
  cases e : merge2 x y with
  | fail => trivial
  | alt _ _ =>
    unfold merge2 at e
    split at e
    · rename_i a1 h1 n1 r1 w1 b1 h2 n2 r2 w2
      cases hc : (veq 1000 a1 b1 && Nat.beq n1 n2) <;> rw [hc] at e <;> cases e
    · cases e
  | ok a g m r w =>
    obtain ⟨h1, h2, r1, w1, r2, w2, rfl, rfl, rfl, rfl, rfl⟩ := merge2_ok e
    refine ⟨hx.1, fun k hk => ?_⟩
    have hk2 := hk
    rw [tb_lor, Bool.or_eq_false_iff] at hk2
    rw [(get_merge0 _ h1 h2 k).2 hk (by rw [hx.2 k hk2.1, hy.2 k hk2.2]), hx.2 k hk2.1]

theorem unite_fr {h : Tr AObj} {n : Nat} : ∀ {x : Res Value}, x.Fr h n → x.unite.Fr h n
  | .fail, _ => trivial
  | .ok _ _ _ _ _, hx => hx
  | .alt x y, hx => merge2_fr (unite_fr hx.1) (unite_fr hx.2)

theorem unite_form : ∀ (x : Res Value), x.unite = .fail ∨ ∃ a g m r w, x.unite = .ok a g m r w
  | .fail => .inl rfl
  | .ok a g m r w => .inr ⟨a, g, m, r, w, rfl⟩
  | .alt x y => by
    show merge2 x.unite y.unite = .fail ∨ _
    cases e : merge2 x.unite y.unite with
    | fail => exact .inl rfl
    | ok a g m r w => exact .inr ⟨a, g, m, r, w, e⟩
    | alt _ _ =>
      unfold merge2 at e
      split at e
      · rename_i a1 h1 n1 r1 w1 b1 h2 n2 r2 w2 _ _
        cases hc : (veq 1000 a1 b1 && Nat.beq n1 n2) <;> rw [hc] at e <;> cases e
      · cases e

/-- Whatever outcome comes: it is the one that is told, but for what is forgotten. -/
theorem unite_all {h : Tr AObj} {n : Nat} {a : Value} {g : Tr AObj} {m r w : Nat} : ∀ {x : Res Value}, x.Fr h n → x.unite = .ok a g m r w → x.All fun a' g' m' => a' = a ∧ m' = m ∧ SubT g g'
  | .fail, _, e => by cases e
  | .ok a' g' m' r' w', _, e => by
    simp only [Res.unite, Res.ok.injEq] at e
    obtain ⟨rfl, rfl, rfl, _, _⟩ := e
    exact ⟨rfl, rfl, SubT.refl _⟩
  | .alt x y, hx, e => by
    obtain ⟨h1, h2, r1, w1, r2, w2, e1, e2, rfl, rfl, rfl⟩ := merge2_ok (x := x.unite) (y := y.unite) e
    have f1 := unite_fr hx.1
    have f2 := unite_fr hx.2
    rw [e1] at f1
    rw [e2] at f2
    have hs := merge_sub (h := h) rfl f1.2 f2.2
    exact ⟨(unite_all hx.1 e1).mono fun a' g' m' k => ⟨k.1, k.2.1, hs.1.trans k.2.2⟩, (unite_all hx.2 e2).mono fun a' g' m' k => ⟨k.1, k.2.1, hs.2.trans k.2.2⟩⟩

theorem unite_sim {h g : Tr AObj} {n : Nat} : ∀ {x y : Res Value}, x.Fr h n → y.Fr g n → x.Sim y → x.unite.Full → x.Full → (∀ k, x.foot.testBit k = true → g.get k = h.get k) → x.unite.Sim y.unite
  | .fail, _, _, _, _, _, _, _ => trivial
  | .ok a h1 m r w, y, _, _, hs, _, _, _ => by
    obtain ⟨g1, rfl, hg⟩ := hs
    exact ⟨g1, rfl, hg⟩
  | .alt x x2, z, fx, fz, hs, hF, hX, ha => by
    obtain ⟨y, y2, rfl, s1, s2⟩ := hs
    have ha1 : ∀ k, x.foot.testBit k = true → g.get k = h.get k := fun k hk => ha k (by simp only [Res.foot, tb_lor, hk, Bool.true_or])
    have ha2 : ∀ k, x2.foot.testBit k = true → g.get k = h.get k := fun k hk => ha k (by simp only [Res.foot, tb_lor, hk, Bool.or_true])
    rcases unite_form (.alt x x2) with e | ⟨a, g1, m, r, w, e⟩
    · rw [e] at hF; exact hF.elim
    · obtain ⟨h1, h2, r1, w1, r2, w2, e1, e2, rfl, rfl, rfl⟩ := merge2_ok (x := x.unite) (y := x2.unite) e
      have q1 := unite_sim fx.1 fz.1 s1 (by rw [e1]; trivial) hX.1 ha1
      have q2 := unite_sim fx.2 fz.2 s2 (by rw [e2]; trivial) hX.2 ha2
      have f1 := unite_fr fx.1
      have f2 := unite_fr fx.2
      have z1 := unite_fr fz.1
      have z2 := unite_fr fz.2
      have k1 := unite_foot x
      have k2 := unite_foot x2
      rw [e1] at q1 f1 k1
      rw [e2] at q2 f2 k2
      obtain ⟨g1, d1, hg1⟩ := q1
      obtain ⟨g2, d2, hg2⟩ := q2
      rw [d1] at z1
      rw [d2] at z2
      rw [e]
      refine ⟨mergeT (Nat.lor w1 w2) g1 g2 0 1, ?_, fun k hk => ?_⟩
      · show merge2 y.unite y2.unite = _
        rw [d1, d2]
        have hv : (veq 1000 a a && Nat.beq m m) = true := by
          have : merge2 x.unite x2.unite = .ok a (mergeT (Nat.lor w1 w2) h1 h2 0 1) m (Nat.lor r1 r2) (Nat.lor w1 w2) := e
          rw [e1, e2] at this
          unfold merge2 at this
          cases hc : (veq 1000 a a && Nat.beq m m) with
          | true => rfl
          | false => simp only [hc, cond_false] at this; cases this
        unfold merge2
        simp only [hv, cond_true]
      · have a1 : g1.get k = h1.get k := by
          by_cases c : w1.testBit k = true
          · exact hg1 k c
          · have c' : w1.testBit k = false := by simpa using c
            rw [f1.2 k c', z1.2 k c']
            rw [tb_lor, c', Bool.false_or] at hk
            exact ha2 k (k2 k (by simp only [Res.foot, tb_lor, hk, Bool.or_true]))
        have a2 : g2.get k = h2.get k := by
          by_cases c : w2.testBit k = true
          · exact hg2 k c
          · have c' : w2.testBit k = false := by simpa using c
            rw [f2.2 k c', z2.2 k c']
            rw [tb_lor, c', Bool.or_false] at hk
            exact ha1 k (k1 k (by simp only [Res.foot, tb_lor, hk, Bool.or_true]))
        rw [(get_merge0 _ g1 g2 k).1 hk, (get_merge0 _ h1 h2 k).1 hk, a1, a2]
where
  unite_foot : ∀ (x : Res Value) (k : Nat), x.unite.foot.testBit k = true → x.foot.testBit k = true
    | .fail, k, h => h
    | .ok _ _ _ _ _, k, h => h
    | .alt x y, k, h => by
      rcases unite_form (.alt x y) with e | ⟨a, g, m, r, w, e⟩
      · rw [e] at h; simp [Res.foot, tb_zero] at h
      · obtain ⟨h1, h2, r1, w1, r2, w2, e1, e2, rfl, rfl, rfl⟩ := merge2_ok (x := x.unite) (y := y.unite) e
        have k1 := unite_foot x k
        have k2 := unite_foot y k
        rw [e] at h
        rw [e1] at k1
        rw [e2] at k2
        simp only [Res.foot, tb_lor, Bool.or_eq_true] at h k1 k2 ⊢
        rcases h with (h | h) | (h | h)
        · exact .inl (k1 (.inl h))
        · exact .inr (k2 (.inl h))
        · exact .inl (k1 (.inr h))
        · exact .inr (k2 (.inr h))

theorem unite_full : ∀ {x : Res Value}, x.unite.Full → x.Full ∧ ∀ k, x.foot.testBit k = true → x.unite.foot.testBit k = true
  | .fail, h => h.elim
  | .ok _ _ _ _ _, h => ⟨trivial, fun _ h => h⟩
  | .alt x y, h => by
    rcases unite_form (.alt x y) with e | ⟨a, g, m, r, w, e⟩
    · rw [e] at h; exact h.elim
    · obtain ⟨h1, h2, r1, w1, r2, w2, e1, e2, rfl, rfl, rfl⟩ := merge2_ok (x := x.unite) (y := y.unite) e
      have q1 := unite_full (x := x) (by rw [e1]; trivial)
      have q2 := unite_full (x := y) (by rw [e2]; trivial)
      refine ⟨⟨q1.1, q2.1⟩, fun k hk => ?_⟩
      have k1 := q1.2 k
      have k2 := q2.2 k
      rw [e]
      rw [e1] at k1
      rw [e2] at k2
      simp only [Res.foot, tb_lor, Bool.or_eq_true] at hk k1 k2 ⊢
      rcases hk with h | h
      · rcases k1 h with h | h <;> simp [h]
      · rcases k2 h with h | h <;> simp [h]

theorem Loc.unite {m : M Value} (hm : Loc m) : Loc (fun h n => (m h n).unite : M Value) :=
  ⟨fun h n => unite_fr (hm.fr h n), fun h g n hF ha => by
    have q := unite_full hF
    exact unite_sim (hm.fr h n) (hm.fr g n) (hm.sim h g n q.1 fun k hk => ha k (q.2 k hk)) hF q.1 fun k hk => ha k (q.2 k hk)⟩

end Go.IM
