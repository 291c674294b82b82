/- Calls whose outcome is known beforehand: at a certain name, with certain arguments and a certain memory. -/
import Derived.Test.YtamhdelomchleaaGreatF1
import Derived.Test.YtamhdelomchleaaGreatJ7
set_option linter.unusedVariables false
set_option linter.unusedSimpArgs false
namespace Go.IM

def veqp : List (Value × Value) → List (Value × Value) → Bool
  | [], [] => true
  | (a, b) :: l, (c, d) :: m => veq 1000 a c && veq 1000 b d && veqp l m
  | _, _ => false
def neqs : List Nat → List Nat → Bool
  | [], [] => true
  | a :: l, b :: m => Nat.beq a b && neqs l m
  | _, _ => false
theorem neqs_eq : ∀ {a b : List Nat}, neqs a b = true → a = b
  | [], [], _ => rfl
  | a :: l, b :: m, h => by
    simp only [neqs, Bool.and_eq_true] at h
    rw [Nat.eq_of_beq_eq_true h.1, neqs_eq h.2]
  | [], _ :: _, h => by cases h
  | _ :: _, [], h => by cases h
/-- Is the same there? -/
def oeqF : Option AObj → Option AObj → Bool
  | none, none => true
  | some (.cells a t), some (.cells b u) => Nat.beq t u && veqs 1000 a b
  | some (.map a), some (.map b) => veqp a b
  | some (.iter m c s), some (.iter m' c' s') => Nat.beq m m' && Nat.beq c c' && neqs s s'
  | _, _ => false

structure Memo where
  args : List Value
  n : Nat
  inp : List (Nat × Option AObj)
  val : Value
  out : List (Nat × Option AObj)
  n' : Nat
  r : Nat
  w : Nat

noncomputable def fitsL (h : Tr AObj) : List (Nat × Option AObj) → Bool
  | [] => true
  | p :: l => oeqF (h.get p.1) p.2 && fitsL h l
noncomputable def putL' : List (Nat × Option AObj) → Tr AObj → Tr AObj
  | [], h => h
  | p :: l, h => putL' l (Tr.set 20 h p.1 p.2)
def keysL : List (Nat × Option AObj) → Nat
  | [] => 0
  | p :: l => Nat.lor (Nat.shiftLeft 1 p.1) (keysL l)
def smallL : List (Nat × Option AObj) → Bool
  | [] => true
  | p :: l => Nat.blt p.1 65536 && smallL l

def findM (n : Nat) : List Memo → Option Memo
  | [] => none
  | e :: es => bif Nat.beq n e.n then some e else findM n es

noncomputable def memoM (es : List Memo) (args : List Value) : M Value := fun h n => match findM n es with
  | none => .fail
  | some e => bif veqs 1000 args e.args && fitsL h e.inp then .ok e.val (putL' e.out h) e.n' e.r e.w else .fail

theorem memoM_at {es : List Memo} {args : List Value} {h : Tr AObj} {n : Nat} {e : Memo} (hf : findM n es = some e) :
    memoM es args h n = bif veqs 1000 args e.args && fitsL h e.inp then .ok e.val (putL' e.out h) e.n' e.r e.w else .fail := by
  unfold memoM
  rw [hf]
theorem memoM_no {es : List Memo} {args : List Value} {h : Tr AObj} {n : Nat} (hf : findM n es = none) : memoM es args h n = .fail := by
  unfold memoM
  rw [hf]

/-- The outcome is as it is told. -/
noncomputable def Memo.sureR (e : Memo) (x : Res Value) : Bool := match x with
  | .ok v h n r w => veq 1000 v e.val && Nat.beq n e.n' && Nat.beq r e.r && Nat.beq w e.w && fitsL h e.out && Nat.beq (keysL e.inp) (Nat.lor e.r e.w) && Nat.beq (keysL e.out) e.w && smallL e.out && smallL e.inp && Nat.ble e.n e.n'
  | _ => false
noncomputable def Memo.sure (T : Tab) (f : Nat) (g : FuncId) (e : Memo) : Bool := e.sureR (callK T (execK T f) g e.args (putL' e.inp .nil) e.n)

theorem veqp_eq : ∀ {a b : List (Value × Value)}, veqp a b = true → a = b
  | [], [], _ => rfl
  | (a, b) :: l, (c, d) :: m, h => by
    simp only [veqp, Bool.and_eq_true] at h
    rw [(veq_eq 1000).1 _ _ h.1.1, (veq_eq 1000).1 _ _ h.1.2, veqp_eq h.2]
  | [], _ :: _, h => by cases h
  | _ :: _, [], h => by cases h
theorem oeqF_eq {a b : Option AObj} (h : oeqF a b = true) : a = b := by
  unfold oeqF at h
  split at h
  · rfl
  · rw [Bool.and_eq_true] at h
    rw [Nat.eq_of_beq_eq_true h.1, (veq_eq 1000).2 _ _ h.2]
  · rw [veqp_eq h]
  · rw [Bool.and_eq_true, Bool.and_eq_true] at h
    rw [Nat.eq_of_beq_eq_true h.1.1, Nat.eq_of_beq_eq_true h.1.2, neqs_eq h.2]
  · cases h

theorem fitsL_all {h : Tr AObj} : ∀ {l : List (Nat × Option AObj)}, fitsL h l = true → ∀ p ∈ l, h.get p.1 = p.2
  | [], _, p, hp => by cases hp
  | q :: l, e, p, hp => by
    simp only [fitsL, Bool.and_eq_true] at e
    rcases List.mem_cons.1 hp with rfl | hp
    · exact oeqF_eq e.1
    · exact fitsL_all e.2 p hp
theorem fitsL_congr {h g : Tr AObj} : ∀ {l : List (Nat × Option AObj)}, (∀ p ∈ l, g.get p.1 = h.get p.1) → fitsL g l = fitsL h l
  | [], _ => rfl
  | q :: l, e => by
    simp only [fitsL]
    rw [e q (by simp), fitsL_congr fun p hp => e p (by simp [hp])]
theorem keysL_tb : ∀ {l : List (Nat × Option AObj)} {k : Nat}, (keysL l).testBit k = true ↔ ∃ p ∈ l, p.1 = k
  | [], k => by simp [keysL, tb_zero]
  | q :: l, k => by
    simp only [keysL, tb_lor, tb_one, Bool.or_eq_true, decide_eq_true_eq, keysL_tb, List.mem_cons, exists_eq_or_imp]
/-- Out of the list, or as it was. -/
theorem putL_get : ∀ {l : List (Nat × Option AObj)} {h : Tr AObj} {k : Nat}, smallL l = true → ((∃ p ∈ l, p.1 = k ∧ (putL' l h).get k = p.2) ∨ ((∀ p ∈ l, p.1 ≠ k) ∧ (putL' l h).get k = h.get k))
  | [], h, k, _ => .inr ⟨by simp, rfl⟩
  | q :: l, h, k, hs => by
    simp only [smallL, Bool.and_eq_true, Nat.blt_eq] at hs
    unfold putL'
    rcases putL_get (l := l) (h := Tr.set 20 h q.1 q.2) (k := k) hs.2 with ⟨p, hp, h1, h2⟩ | ⟨h1, h2⟩
    · exact .inl ⟨p, by simp [hp], h1, h2⟩
    · rw [Tr.get_set20 _ _ _ _ hs.1] at h2
      by_cases e : k = q.1
      · rw [if_pos e] at h2
        exact .inl ⟨q, by simp, e.symm, h2⟩
      · rw [if_neg e] at h2
        refine .inr ⟨fun p hp => ?_, h2⟩
        rcases List.mem_cons.1 hp with rfl | hp
        · exact fun e' => e e'.symm
        · exact h1 p hp

theorem findM_some {n : Nat} : ∀ {es : List Memo} {e : Memo}, findM n es = some e → e ∈ es ∧ e.n = n
  | [], e, h => by cases h
  | x :: es, e, h => by
    unfold findM at h
    cases hb : Nat.beq n x.n with
    | true =>
      rw [hb] at h
      cases h
      exact ⟨by simp, (Nat.eq_of_beq_eq_true hb).symm⟩
    | false =>
      rw [hb] at h
      obtain ⟨h1, h2⟩ := findM_some h
      exact ⟨by simp [h1], h2⟩

structure Sure (T : Tab) (f : Nat) (g : FuncId) (e : Memo) : Prop where
  run : ∃ h', callG T (exec T f) g e.args (putL' e.inp .nil) e.n = .ok e.val h' e.n' e.r e.w ∧ ∀ p ∈ e.out, h'.get p.1 = p.2
  inp : ∀ k, (Nat.lor e.r e.w).testBit k = true ↔ ∃ p ∈ e.inp, p.1 = k
  out : ∀ k, e.w.testBit k = true ↔ ∃ p ∈ e.out, p.1 = k
  so : smallL e.out = true
  si : smallL e.inp = true
  le : e.n ≤ e.n'

theorem sure_ok {T : Tab} {f : Nat} {g : FuncId} {e : Memo} (h : e.sure T f g = true) : Sure T f g e := by
  unfold Memo.sure at h
  rw [callK_exec] at h
  unfold Memo.sureR at h
  split at h
  · rename_i v h' n r w hx
    simp only [Bool.and_eq_true, Nat.ble_eq] at h
    obtain ⟨⟨⟨⟨⟨⟨⟨⟨⟨h1, h2⟩, h3⟩, h4⟩, h5⟩, h6⟩, h7⟩, h8⟩, h9⟩, h10⟩ := h
    have h2 := Nat.eq_of_beq_eq_true h2
    have h3 := Nat.eq_of_beq_eq_true h3
    have h4 := Nat.eq_of_beq_eq_true h4
    subst h2 h3 h4
    rw [(veq_eq 1000).1 _ _ h1] at hx
    refine ⟨⟨h', hx, fitsL_all h5⟩, fun k => ?_, fun k => ?_, h8, h9, h10⟩
    · rw [← Nat.eq_of_beq_eq_true h6]; exact keysL_tb
    · rw [← Nat.eq_of_beq_eq_true h7]; exact keysL_tb
  · cases h

section
variable {T : Tab} {f : Nat} {g : FuncId} {es : List Memo} (hs : ∀ e ∈ es, Sure T f g e)
include hs
theorem memo_loc (args : List Value) : Loc (memoM es args) := by
  refine ⟨fun h n => ?_, fun h h2 n hF ha => ?_⟩
  · cases hf : findM n es with
    | none => rw [memoM_no hf]; trivial
    | some e =>
      obtain ⟨he, hn⟩ := findM_some hf
      have S := hs e he
      rw [memoM_at hf]
      cases hc : (veqs 1000 args e.args && fitsL h e.inp) with
      | false => trivial
      | true =>
        refine ⟨by rw [← hn]; exact S.le, fun k hk => ?_⟩
        rcases putL_get (l := e.out) (h := h) (k := k) S.so with ⟨p, hp, h1, _⟩ | ⟨_, h2⟩
        · have := (S.out k).2 ⟨p, hp, h1⟩
          rw [hk] at this
          cases this
        · exact h2
  · cases hf : findM n es with
    | none => rw [memoM_no hf]; trivial
    | some e =>
      rw [memoM_at hf] at hF ha
      rw [memoM_at hf, memoM_at hf]
      obtain ⟨he, hn⟩ := findM_some hf
      have S := hs e he
      cases hc : (veqs 1000 args e.args && fitsL h e.inp) with
      | false => trivial
      | true =>
        rw [hc] at ha
        simp only [cond_true, Res.foot] at ha
        have hfit : fitsL h2 e.inp = fitsL h e.inp := fitsL_congr fun p hp => ha p.1 ((S.inp p.1).2 ⟨p, hp, rfl⟩)
        rw [hfit, hc]
        refine ⟨_, rfl, fun k hk => ?_⟩
        obtain ⟨p, hp, hpk⟩ := (S.out k).1 hk
        rcases putL_get (l := e.out) (h := h) (k := k) S.so with ⟨p1, hp1, e1, v1⟩ | ⟨hno, _⟩
        · rcases putL_get (l := e.out) (h := h2) (k := k) S.so with ⟨p2, hp2, e2, v2⟩ | ⟨hno, _⟩
          · obtain ⟨hr, hrun, hout⟩ := S.run
            rw [v1, v2, ← hout p1 hp1, ← hout p2 hp2, e1, e2]
          · exact absurd hpk (hno p hp)
        · exact absurd hpk (hno p hp)

theorem memo_run {args : List Value} {h : Tr AObj} {n : Nat} {Q : Value → Tr AObj → Nat → Prop} (hOl : ∀ f m args, T.ov f = some m → Loc (m args)) (hm : MW (memoM es args) h n Q) :
    ∃ v h' n' r w h2, callG T (exec T f) g args h n = .ok v h2 n' r w ∧ Q v h' n' ∧ ∀ k, h'.get k = h2.get k := by
  have hm2 : Res.All Q (memoM es args h n) := hm
  clear hm
  cases hf : findM n es with
  | none => rw [memoM_no hf] at hm2; exact hm2.elim
  | some e =>
    rw [memoM_at hf] at hm2
    obtain ⟨he, hn⟩ := findM_some hf
    have S := hs e he
    subst hn
    cases hc : (veqs 1000 args e.args && fitsL h e.inp) with
    | false => rw [hc] at hm2; exact hm2.elim
    | true =>
      rw [hc] at hm2
      rw [Bool.and_eq_true] at hc
      have ea := (veq_eq 1000).2 _ _ hc.1
      subst ea
      obtain ⟨h0, hrun, hout⟩ := S.run
      have hloc := Loc.callG (T := T) hOl (Loc.exec hOl f) g e.args
      have hsim := hloc.sim (putL' e.inp .nil) h e.n (by rw [hrun]; trivial) (fun k hk => by
        rw [hrun] at hk
        obtain ⟨p, hp, hpk⟩ := (S.inp k).1 hk
        rcases putL_get (l := e.inp) (h := .nil) (k := k) S.si with ⟨p1, hp1, e1, v1⟩ | ⟨hno, _⟩
        · rw [v1, ← e1]
          exact fitsL_all hc.2 p1 hp1
        · exact absurd hpk (hno p hp))
      rw [hrun] at hsim
      obtain ⟨h2, h2r, h2w⟩ := hsim
      have hfr := hloc.fr h e.n
      rw [h2r] at hfr
      refine ⟨e.val, putL' e.out h, e.n', e.r, e.w, h2, h2r, hm2, fun k => ?_⟩
      rcases putL_get (l := e.out) (h := h) (k := k) S.so with ⟨p1, hp1, e1, v1⟩ | ⟨hno, v1⟩
      · rw [v1, ← hout p1 hp1, e1]
        exact (h2w k ((S.out k).2 ⟨p1, hp1, e1⟩)).symm
      · rw [v1]
        cases hb : e.w.testBit k with
        | true =>
          obtain ⟨p, hp, hpk⟩ := (S.out k).1 hb
          exact absurd hpk (hno p hp)
        | false => exact (hfr.2 k hb).symm

/-- What is taken beforehand is a contract. -/
theorem memo_ok {P : Program} (hM : P.follows .mixedOrders = true) (hT : TabOK P T) (hO : OvOK P T) (hOl : ∀ f m args, T.ov f = some m → Loc (m args)) (hfn : ∃ fn, FnOK P g fn)
    {B : Nat} {w0 : World} {Ds : List Nat} {ρ : Nam} {h : Tr AObj} {n N : Nat} {w : World} {Q : Value → Tr AObj → Nat → Prop} {args as : List Value}
    (hm : MW (memoM es args) h n Q) (hN : ∀ v h' n', Q v h' n' → n' ≤ N) (hF : Fresh ρ n N) (hB : B ≤ w0.heap.size) (H : HR B w0 Ds ρ h w) (hv : VRs ρ args as) :
    CallsIn Fence.wide 0 P g ⟨as⟩ w fun e w' => ∃ u, e = .returned u ∧ Post B w0 Ds ρ n Q u w' := by
  obtain ⟨v, h', n', r, wm, h2, hrun, hq, hg⟩ := memo_run hs hOl hm
  have hm2 : MW (callG T (exec T f) g args) h n fun v1 h1 n1 => v1 = v ∧ h1 = h2 ∧ n1 = n' := by
    show Res.All _ (callG T (exec T f) g args h n)
    rw [hrun]
    exact ⟨rfl, rfl, rfl⟩
  obtain ⟨_, hc⟩ := exec_calls hM hT hO hOl f hm2 (N := N) (fun v1 h1 n1 hq1 => by rw [hq1.2.2]; exact hN _ _ _ hq) hF hB H hv
  refine CallsIn.mono hc ?_
  rintro e w' ⟨u, rfl, v1, h1, n1, ρ', ⟨rfl, rfl, rfl⟩, hn, he, hd, H', hvu⟩
  exact ⟨u, rfl, _, _, _, ρ', hq, hn, he, hd, H'.same hg, hvu⟩
end
end Go.IM
