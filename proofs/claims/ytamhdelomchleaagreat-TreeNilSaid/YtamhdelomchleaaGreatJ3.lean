/- The leaner machine and the model: a region that draws its order; an operation hangs on its operands alone. -/
import Derived.Test.YtamhdelomchleaaGreatJ2
set_option linter.unusedVariables false
set_option linter.unusedSimpArgs false
namespace Go.IM
open Go.RowKit

section
variable {T : Tab} {call : Call} {yield : Yield} {tm tm2 : Tr Value}

theorem mskOf_tb : ∀ {l : List Operand} {t : Nat}, Operand.tmp t ∈ l → (mskOf l).testBit t = true
  | [], t, h => by cases h
  | x :: l, t, h => by
    rcases List.mem_cons.1 h with rfl | h
    · simp only [mskOf, tb_lor, tb_one, decide_true, Bool.true_or]
    · have := mskOf_tb h
      cases x <;> simp [mskOf, tb_lor, this]

theorem ev_agree {x : Operand} (h : ∀ t, x = .tmp t → tm2.get t = tm.get t) : ev tm2 x = ev tm x := by
  cases x with
  | tmp t => exact h t rfl
  | _ => rfl
theorem evs_agree : ∀ {xs : List Operand}, (∀ x ∈ xs, ev tm2 x = ev tm x) → evs tm2 xs = evs tm xs
  | [], _ => rfl
  | x :: xs, h => by unfold evs; rw [h x (by simp), evs_agree fun y hy => h y (by simp [hy])]
theorem evp_agree : ∀ {xs : List (Nat × Operand)}, (∀ x ∈ xs, ev tm2 x.2 = ev tm x.2) → evp tm2 xs = evp tm xs
  | [], _ => rfl
  | (i, x) :: xs, h => by unfold evp; rw [h (i, x) (by simp), evp_agree fun y hy => h y (by simp [hy])]
theorem evo_agree {x : Option Operand} (h : ∀ y, x = some y → ev tm2 y = ev tm y) : evo tm2 x = evo tm x := by
  cases x with
  | none => rfl
  | some y => simp only [evo]; rw [h y rfl]

theorem opM_agree {o : Op} (h : ∀ x ∈ o.operands.toList, ev tm2 x = ev tm x) : opM T call yield tm2 o = opM T call yield tm o := by
  cases o
  case move x => simp [Op.operands] at h; simp only [opM, h]
  case assign x => simp [Op.operands] at h; simp only [opM, h]
  case pick c a b => simp [Op.operands] at h; simp only [opM, opPick, h.1, h.2.1, h.2.2]
  case alloc t => rfl
  case box t x => simp [Op.operands] at h; simp only [opM, opBox, h]
  case build t ps =>
    have : evp tm2 ps.toList = evp tm ps.toList := evp_agree fun x hx => h x.2 (by simp [Op.operands]; exact ⟨x.1, by simpa using hx⟩)
    simp only [opM, opBuild, this]
  case buildSlice t n ps =>
    have : evp tm2 ps.toList = evp tm ps.toList := evp_agree fun x hx => h x.2 (by simp [Op.operands]; exact ⟨x.1, by simpa using hx⟩)
    simp only [opM, opBuildSlice, this]
  case load t x => simp [Op.operands] at h; simp only [opM, opLoad, h]
  case store t x y => simp [Op.operands] at h; simp only [opM, opStore, h.1, h.2]
  case nilCheck x => simp [Op.operands] at h; simp only [opM, h]
  case binOp op t x y z => simp [Op.operands] at h; simp only [opM, h.1, h.2]
  case unOp op t x => simp [Op.operands] at h; simp only [opM, h]
  case convert s d x => simp [Op.operands] at h; simp only [opM, h]
  case makeFunc fn first cap =>
    have h1 : evs tm2 first.toList = evs tm first.toList := evs_agree fun x hx => h x (by simp [Op.operands]; exact .inl (by simpa using hx))
    have h2 : evs tm2 cap.toList = evs tm cap.toList := evs_agree fun x hx => h x (by simp [Op.operands]; exact .inr (by simpa using hx))
    simp only [opM, opFunc, h1, h2]
  case makeMap t r =>
    have : evo tm2 r = evo tm r := evo_agree fun y hy => h y (by simp [Op.operands, hy])
    simp only [opM, opMap, this]
  case makeSlice t x y => simp [Op.operands] at h; simp only [opM, opMake, h.1, h.2]
  case slice t x lo hi mx =>
    cases mx with
    | some m => rfl
    | none =>
      have h1 : evo tm2 lo = evo tm lo := evo_agree fun y hy => h y (by simp [Op.operands, hy])
      have h2 : evo tm2 hi = evo tm hi := evo_agree fun y hy => h y (by simp [Op.operands, hy])
      have h3 := h x (by simp [Op.operands])
      simp only [opM, opSlice, h1, h2, h3]
  case fieldAddr t x f => simp [Op.operands] at h; simp only [opM, h]
  case field t x f => simp [Op.operands] at h; simp only [opM, h]
  case indexAddr t x y => simp [Op.operands] at h; simp only [opM, h.1, h.2]
  case index t x y => simp [Op.operands] at h; simp only [opM, h.1, h.2]
  case lookup t x y ok => simp [Op.operands] at h; simp only [opM, h.1, h.2]
  case mapUpdate t x y z => simp [Op.operands] at h; simp only [opM, h.1, h.2.1, h.2.2]
  case extract x i => simp [Op.operands] at h; simp only [opM, h]
  case range t x => simp [Op.operands] at h; simp only [opM, h]
  case next x s => cases s with
    | true => rfl
    | false => simp [Op.operands] at h; simp only [opM, h]
  case entry x => simp [Op.operands] at h; simp only [opM, h]
  case call c =>
    have h1 : evs tm2 c.args.toList = evs tm c.args.toList := evs_agree fun x hx => h x (by simp [Op.operands, Call.operands]; exact .inr (by simpa using hx))
    cases hc : c.callee with
    | builtin b => simp only [opM, opCall, h1, hc]
    | invoke r n => simp only [opM, opCall, h1, hc]
    | value f =>
      have h2 := h f (by simp [Op.operands, Call.operands, hc])
      simp only [opM, opCall, h1, hc, h2]
  all_goals rfl

theorem dstM_tb {d : Option Tmp} {t : Nat} : (dstM d).testBit t = decide (d = some t) := by
  cases d with
  | none => simp [dstM, tb_zero]
  | some d =>
    show (Nat.shiftLeft 1 d).testBit t = _
    rw [tb_one]
    simp

theorem looks_op {ops : List Oper} {o : Oper} (h : ∀ t, (looksM ops o).testBit t = true → tm2.get t = tm.get t) : ∀ x ∈ o.op.operands.toList, ev tm2 x = ev tm x := fun x hx => by
  refine ev_agree fun t e => h t ?_
  subst e
  unfold looksM
  rw [tb_lor, mskOf_tb hx, Bool.true_or]

theorem looks_wanted {ops : List Oper} {o : Oper} (h : ∀ t, (looksM ops o).testBit t = true → tm2.get t = tm.get t) : wanted ops tm2 o.guard = wanted ops tm o.guard := by
  unfold wanted
  cases hg : o.guard with
  | none => rfl
  | some p =>
    obtain ⟨j, want⟩ := p
    simp only
    cases hd : dstAt ops j with
    | none => rfl
    | some d =>
      simp only
      rw [h d]
      unfold looksM
      rw [tb_lor, hg]
      simp only [hd, dstM_tb, decide_true, Bool.or_true]

theorem putT_ok {nt : Nat} {dst : Option Tmp} {v : Value} {t1 : Tr Value} (h : putT nt tm dst v = some t1) :
    (∀ t, dst ≠ some t → t1.get t = tm.get t) ∧ ∃ t2, putT nt tm2 dst v = some t2 ∧ ∀ t, t2.get t = if dst = some t then t1.get t else tm2.get t := by
  unfold putT at h ⊢
  cases dst with
  | none => cases h; exact ⟨fun _ _ => rfl, tm2, rfl, fun t => by simp⟩
  | some d =>
    simp only at h ⊢
    cases hb : (Nat.blt d nt && Nat.blt d 65536) with
    | false => rw [hb] at h; cases h
    | true =>
      rw [hb] at h
      simp only [cond_true, Option.some.injEq] at h ⊢
      subst h
      simp only [Bool.and_eq_true, Nat.blt_eq] at hb
      refine ⟨fun t ht => ?_, _, rfl, fun t => ?_⟩
      · rw [Tr.get_set20 _ _ _ _ hb.2, if_neg (fun e => ht (by rw [e]))]
      · rw [Tr.get_set20 _ _ _ _ hb.2, Tr.get_set20 _ _ _ _ hb.2]
        by_cases e : t = d
        · subst e; simp
        · rw [if_neg e, if_neg (fun h => e (by cases h; rfl))]

theorem Res.bind_is_ok {α β : Type} {k : α → Tr AObj → Nat → Res β} {x : Res α} {b : β} {h : Tr AObj} {n r w : Nat} (e : Res.bind k x = .ok b h n r w) :
    ∃ a h1 n1 r1 w1, x = .ok a h1 n1 r1 w1 ∧ (k a h1 n1).add r1 w1 = .ok b h n r w := by
  cases x with
  | fail => cases e
  | alt _ _ => cases e
  | ok a h1 n1 r1 w1 => exact ⟨a, h1, n1, r1, w1, rfl, e⟩

/-- A step hangs on the temporaries that it looks at. -/
theorem stepM_agree {nt : Nat} {ops : List Oper} {o : Oper} {h g : Tr AObj} {n m r w : Nat} {t1 : Tr Value} (ha : ∀ t, (looksM ops o).testBit t = true → tm2.get t = tm.get t) (e : stepM T call yield nt ops tm o h n = .ok t1 g m r w) :
    (∀ t, o.dst ≠ some t → t1.get t = tm.get t) ∧ ∃ t2, stepM T call yield nt ops tm2 o h n = .ok t2 g m r w ∧ ∀ t, t2.get t = if o.dst = some t then t1.get t else tm2.get t := by
  unfold stepM at e ⊢
  rw [looks_wanted ha, opM_agree (looks_op ha)]
  cases hw : wanted ops tm o.guard with
  | none => rw [hw] at e; cases e
  | some b =>
    rw [hw] at e
    cases b with
    | true =>
      change Res.bind _ (opM T call yield tm o.op h n) = _ at e
      obtain ⟨v, h1, n1, r1, w1, hx, e⟩ := Res.bind_is_ok e
      cases hp : putT nt tm o.dst v with
      | none => rw [hp] at e; cases e
      | some t =>
        rw [hp] at e
        cases e
        obtain ⟨p1, t2, p2, p3⟩ := putT_ok (tm2 := tm2) hp
        refine ⟨p1, t2, ?_, p3⟩
        show Res.bind _ (opM T call yield tm o.op h n) = _
        rw [hx]
        show Res.add _ _ (M.opt (putT nt tm2 o.dst v) M.pure _ _) = _
        rw [p2]
        rfl
    | false =>
      change M.opt (putT nt tm o.dst undef) M.pure h n = _ at e
      cases hp : putT nt tm o.dst undef with
      | none => rw [hp] at e; cases e
      | some t =>
        rw [hp] at e
        cases e
        obtain ⟨p1, t2, p2, p3⟩ := putT_ok (tm2 := tm2) hp
        refine ⟨p1, t2, ?_, p3⟩
        show M.opt (putT nt tm2 o.dst undef) M.pure h n = _
        rw [p2]
        rfl
end
end Go.IM
