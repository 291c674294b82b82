/- The leaner machine and the model: operations that compute. -/
import Derived.Test.YtamhdelomchleaaGreatI5
set_option linter.unusedVariables false
set_option linter.unusedSimpArgs false
namespace Go.IM
open Go.RowKit

section
variable {P : Program} {w : World} {ρ : Nam}

/-! ### Operands -/
theorem ev_ok {nt : Nat} {tm : Tr Value} {a : Act} (h : TR ρ nt tm a.tmps) {x : Operand} {v : Value} (e : ev tm x = some v) : VR ρ v (a.eval x) := by
  cases x with
  | tmp t =>
    obtain ⟨u, hu, hv⟩ := h.2 t v e
    show VR ρ v (a.tmps.getD t undef)
    rw [Array.getD_eq_getD_getElem?, hu]
    exact hv
  | const c =>
    unfold ev at e
    simp only at e
    cases hg : gnd c with
    | false => rw [hg] at e; cases e
    | true =>
      rw [hg] at e
      simp only [cond_true, Option.some.injEq] at e
      subst e
      exact gnd_vr hg
  | func f =>
    unfold ev at e
    simp only [Option.some.injEq] at e
    subst e
    exact VRs.fn f .nil .nil
  | global g => cases e

theorem evs_ok {nt : Nat} {tm : Tr Value} {a : Act} (h : TR ρ nt tm a.tmps) : ∀ {xs : List Operand} {vs : List Value}, evs tm xs = some vs → VRs ρ vs (xs.map a.eval)
  | [], vs, e => by cases e; exact .nil
  | x :: xs, vs, e => by
    unfold evs at e
    cases e1 : ev tm x with
    | none => rw [e1] at e; cases e
    | some v =>
      rw [e1] at e
      simp only at e
      cases e2 : evs tm xs with
      | none => rw [e2] at e; cases e
      | some us =>
        rw [e2] at e
        cases e
        exact .cons (ev_ok h e1) (evs_ok h e2)

theorem evo_ok {nt : Nat} {tm : Tr Value} {a : Act} (h : TR ρ nt tm a.tmps) {x : Option Operand} {v : Option Value} (e : evo tm x = some v) :
    (x = none ∧ v = none) ∨ ∃ y u, x = some y ∧ v = some u ∧ VR ρ u (a.eval y) := by
  cases x with
  | none => cases e; exact .inl ⟨rfl, rfl⟩
  | some y =>
    unfold evo at e
    simp only at e
    cases e1 : ev tm y with
    | none => rw [e1] at e; cases e
    | some u =>
      rw [e1] at e
      cases e
      exact .inr ⟨y, u, rfl, rfl, ev_ok h e1⟩

/-- Numbered parts. -/
inductive PRs (ρ : Nam) : List (Nat × Value) → List (Nat × Value) → Prop
  | nil : PRs ρ [] []
  | cons {i : Nat} {v u : Value} {a b : List (Nat × Value)} (h : VR ρ v u) (k : PRs ρ a b) : PRs ρ ((i, v) :: a) ((i, u) :: b)

theorem evp_ok {nt : Nat} {tm : Tr Value} {a : Act} (h : TR ρ nt tm a.tmps) : ∀ {xs : List (Nat × Operand)} {vs : List (Nat × Value)}, evp tm xs = some vs → PRs ρ vs (xs.map fun p => (p.1, a.eval p.2))
  | [], vs, e => by cases e; exact .nil
  | (i, x) :: xs, vs, e => by
    unfold evp at e
    cases e1 : ev tm x with
    | none => rw [e1] at e; cases e
    | some v =>
      rw [e1] at e
      simp only at e
      cases e2 : evp tm xs with
      | none => rw [e2] at e; cases e
      | some us =>
        rw [e2] at e
        cases e
        exact .cons (ev_ok h e1) (evp_ok h e2)

/-! ### Numbers -/
theorem bin_int {op : BinOp} {k k' : IntKind} {a b : Int} {v : Value} (t : TypeId) (e : binV op k a k' b = some v) : VR ρ v v ∧ (binOp op t (.int k a) (.int k' b)).run P w = .ok v w := by
  unfold binV at e
  cases op
  case shl => cases e
  case shr =>
    unfold shrV at e
    cases hb : decide (b < 0) with
    | true => simp only [hb, cond_true] at e; cases e
    | false =>
      simp only [hb, cond_false, Option.some.injEq] at e
      subst e
      have hb' : ¬ b < 0 := by simpa using hb
      refine ⟨.int _ _, ?_⟩
      simp [binOp, Op.shift, hb']
  all_goals
    simp only at e
    by_cases hk : k = k'
    · subst hk
      simp only [decide_true, cond_true] at e
      unfold binInt at e
      first
        | (cases e; done)
        | (simp only [Option.some.injEq] at e; subst e; exact ⟨by first | exact .int _ _ | exact .bool _, by simp [binOp, Op.intArith, Op.intCmp]⟩)
        | (cases hb : decide (b = 0) with
            | true => simp only [hb, cond_true] at e; cases e
            | false =>
              simp only [hb, cond_false, Option.some.injEq] at e
              subst e
              have hb' : ¬ b = 0 := by simpa using hb
              exact ⟨.int _ _, by simp [binOp, Op.intDiv, hb']⟩)
    · rw [decide_eq_false hk] at e
      cases e

theorem eq_guard {op : BinOp} {t : TypeId} {x y : Operand} {a b : Value} (h1 : ∀ cs, a ≠ .agg cs) (h2 : a ≠ .nilIface) : (eqGuard op t x y a b).run P w = .ok () w := by
  unfold eqGuard
  cases op <;> simp only [] <;> first | rfl | (cases a <;> cases b <;> first | rfl | exact absurd rfl (h1 _) | exact absurd rfl h2)

theorem eq_val {t : TypeId} {k : K} {v u a b : Value} {c : Bool} (hk : KOK P t k) (hq : eqV k v u = some c) (hv : VR ρ v a) (hu : VR ρ u b) :
    (∀ cs, a ≠ .agg cs) ∧ a ≠ .nilIface ∧ (Op.equal t a b).run P w = .ok c w ∧ (∀ k n, a ≠ .int k n) ∧ (∀ k n, a ≠ .float k n) ∧ (∀ k n m, a ≠ .complex k n m) ∧ (∀ s, a ≠ .string s) := by
  suffices h : (∀ cs, a ≠ .agg cs) ∧ a ≠ .nilIface ∧ (∀ d, (Op.equalIn (d + 1) t a b).run P w = .ok c w) ∧ (∀ k n, a ≠ .int k n) ∧ (∀ k n, a ≠ .float k n) ∧ (∀ k n m, a ≠ .complex k n m) ∧ (∀ s, a ≠ .string s) from
    ⟨h.1, h.2.1, h.2.2.1 9999, h.2.2.2⟩
  unfold eqV at hq
  split at hq
  case h_11 => cases hq
  all_goals simp only [KOK] at hk
  all_goals simp only [Option.some.injEq] at hq
  case h_1 => cases hv; cases hu; subst hq; refine ⟨by simp, by simp, fun d => ?_, by simp, by simp, by simp, by simp⟩; simp only [Op.equalIn, Sem.run_bind, run_underlying hk, Result.andThen_ok, Sem.run_pure]
  case h_2 => cases hv; cases hu <;> subst hq <;> (refine ⟨by simp, by simp, fun d => ?_, by simp, by simp, by simp, by simp⟩; simp only [Op.equalIn, Sem.run_bind, run_underlying hk, Result.andThen_ok, Sem.run_pure, Option.isNone_none, Option.isNone_some])
  case h_3 => cases hv; cases hu; subst hq; refine ⟨by simp, by simp, fun d => ?_, by simp, by simp, by simp, by simp⟩; simp only [Op.equalIn, Sem.run_bind, run_underlying hk, Result.andThen_ok, Sem.run_pure]
  case h_4 => cases hv; cases hu <;> subst hq <;> (refine ⟨by simp, by simp, fun d => ?_, by simp, by simp, by simp, by simp⟩; simp only [Op.equalIn, Sem.run_bind, run_underlying hk.1, Result.andThen_ok, Sem.run_pure, Option.isNone_none, Option.isNone_some])
  case h_5 => cases hv <;> cases hu <;> subst hq <;> (refine ⟨by simp, by simp, fun d => ?_, by simp, by simp, by simp, by simp⟩; simp only [Op.equalIn, Sem.run_bind, run_underlying hk.1, Result.andThen_ok, Sem.run_pure])
  case h_6 => cases hv; cases hu <;> subst hq <;> (refine ⟨by simp, by simp, fun d => ?_, by simp, by simp, by simp, by simp⟩; simp only [Op.equalIn, Sem.run_bind, run_underlying hk.1, Result.andThen_ok, Sem.run_pure, Option.isNone_none, Option.isNone_some])
  case h_7 => cases hv; cases hu; subst hq; refine ⟨by simp, by simp, fun d => ?_, by simp, by simp, by simp, by simp⟩; simp only [Op.equalIn, Sem.run_bind, run_underlying hk.1, Result.andThen_ok, Sem.run_pure]
  case h_8 => obtain ⟨ps, rs, vv, hk⟩ := hk; cases hv; cases hu; subst hq; refine ⟨by simp, by simp, fun d => ?_, by simp, by simp, by simp, by simp⟩; simp only [Op.equalIn, Sem.run_bind, run_underlying hk, Result.andThen_ok, Sem.run_pure]
  case h_9 => obtain ⟨ps, rs, vv, hk⟩ := hk; cases hv; cases hu <;> subst hq <;> (refine ⟨by simp, by simp, fun d => ?_, by simp, by simp, by simp, by simp⟩; simp only [Op.equalIn, Sem.run_bind, run_underlying hk, Result.andThen_ok, Sem.run_pure])
  case h_10 => obtain ⟨ps, rs, vv, hk⟩ := hk; cases hv <;> cases hu <;> subst hq <;> (refine ⟨by simp, by simp, fun d => ?_, by simp, by simp, by simp, by simp⟩; simp only [Op.equalIn, Sem.run_bind, run_underlying hk, Result.andThen_ok, Sem.run_pure])

theorem eq_op {op : BinOp} {t : TypeId} {i : TI} {x y : Operand} {v u a b r : Value} (hT : TyOK P t i) (e : eqOp op i.k v u = some r) (hv : VR ρ v a) (hu : VR ρ u b) (hn : ∀ k n, v ≠ .int k n) :
    VR ρ r r ∧ (do eqGuard op t x y a b; binOp op t a b : Sem Value).run P w = .ok r w := by
  have hk := hT.k
  unfold eqOp at e
  cases hq : eqV i.k v u with
  | none => rw [hq] at e; cases e
  | some c =>
    rw [hq] at e
    simp only at e
    have key := eq_val (w := w) hk hq hv hu
    obtain ⟨g1, g2, g3, g4, g5, g6, g7⟩ := key
    have hg := eq_guard (P := P) (w := w) (op := op) (t := t) (x := x) (y := y) (b := b) g1 g2
    cases op <;> simp only [reduceCtorEq, Option.some.injEq] at e
    all_goals
      subst e
      refine ⟨.bool _, ?_⟩
      rw [Sem.run_bind, hg, Result.andThen_ok]
      cases a <;> first
        | exact absurd rfl (g4 _ _)
        | exact absurd rfl (g5 _ _)
        | exact absurd rfl (g6 _ _ _)
        | exact absurd rfl (g7 _)
        | exact absurd rfl (g1 _)
        | (cases b <;> simp [binOp, g3])

theorem un_op {op : UnOp} {v a r : Value} (e : unV op v = some r) (hv : VR ρ v a) : VR ρ r r ∧ (Op.unary op a).run P w = .ok r w := by
  unfold unV at e
  split at e
  · cases hv
    simp only [Option.some.injEq] at e
    subst e
    exact ⟨.bool _, rfl⟩
  · cases hv
    simp only [Option.some.injEq] at e
    subst e
    exact ⟨.int _ _, rfl⟩
  · cases e

theorem conv_op {src dst : TypeId} {i j : TI} {v a r : Value} (hS : TyOK P src j) (hT : TyOK P dst i) (e : convV i.k v = some r) (hv : VR ρ v a) : VR ρ r r ∧ (convert src dst a).run P w = .ok r w := by
  obtain ⟨d, hd, _⟩ := hS.agg
  have hk := hT.k
  unfold convV at e
  split at e
  · rename_i k kk n hi
    rw [hi] at hk
    cases hv
    simp only [Option.some.injEq] at e
    subst e
    refine ⟨.int _ _, ?_⟩
    unfold convert
    simp only [Sem.run_bind, run_underlying hd, run_underlying (show P.underlying dst = some (.int k) from hk), Result.andThen_ok]
    cases d <;> rfl
  · cases e

theorem min_op {v u a b r : Value} (e : minV v u = some r) (hv : VR ρ v a) (hu : VR ρ u b) : VR ρ r r ∧ (Builtin.min2 a b).run P w = .ok r w := by
  unfold minV at e
  split at e
  · cases hv; cases hu
    simp only [Option.some.injEq] at e
    subst e
    refine ⟨.int _ _, ?_⟩
    simp only [Builtin.min2, Sem.run_pure]
    rename_i k x k' y
    by_cases h : y < x <;> simp [h]
  · cases e
theorem max_op {v u a b r : Value} (e : maxV v u = some r) (hv : VR ρ v a) (hu : VR ρ u b) : VR ρ r r ∧ (Builtin.max2 a b).run P w = .ok r w := by
  unfold maxV at e
  split at e
  · cases hv; cases hu
    simp only [Option.some.injEq] at e
    subst e
    refine ⟨.int _ _, ?_⟩
    simp only [Builtin.max2, Sem.run_pure]
    rename_i k x k' y
    by_cases h : y > x <;> simp [h]
  · cases e
theorem fold_op {f : Value → Value → Option Value} {g : Value → Value → Sem Value} (hf : ∀ {v u a b r : Value}, f v u = some r → VR ρ v a → VR ρ u b → VR ρ r r ∧ (g a b).run P w = .ok r w) :
    ∀ {ys us : List Value} {v a r : Value}, foldV f v ys = some r → VR ρ v a → VRs ρ ys us → ∃ c, VR ρ r c ∧ (us.foldlM g a).run P w = .ok c w
  | [], us, v, a, r, e, hv, hy => by
    rw [VRs.inv_nil hy]
    cases e
    exact ⟨a, hv, rfl⟩
  | y :: ys, us, v, a, r, e, hv, hy => by
    obtain ⟨u, us', rfl, hu, hy'⟩ := hy.inv_cons
    unfold foldV at e
    cases e1 : f v y with
    | none => rw [e1] at e; cases e
    | some z =>
      rw [e1] at e
      obtain ⟨hz, hr⟩ := hf e1 hv hu
      obtain ⟨c, hc, hrun⟩ := fold_op hf e hz hy'
      refine ⟨c, hc, ?_⟩
      rw [List.foldlM_cons, Sem.run_bind, hr, Result.andThen_ok]
      exact hrun

/-! ### Addresses -/
theorem add_off (b off n : Nat) : (⟨b, off, none⟩ : Addr).add n = ⟨b, off + n, none⟩ := by unfold Addr.add; split <;> simp_all

theorem fields_at {F : Array Field} {fs : List (Nat × Nat × Bool)} {j : Nat} {p : Nat × Nat × Bool} {l : List (Nat × Nat × Bool)} (e : fs.drop j = p :: l) : fs[j]? = some p := by
  have : (fs.drop j).head? = some p := by rw [e]; rfl
  rwa [List.head?_drop] at this

theorem fieldAddr_op {t : TypeId} {i : TI} {f : Nat} {v a r : Value} (hT : TyOK P t i) (e : fieldAddrV i.k v f = some r) (hv : VR ρ v a) : ∃ c, VR ρ r c ∧ (Instr.fieldAt t a f).run P w = .ok c w := by
  have hk := hT.k
  unfold fieldAddrV at e
  split at e
  · rename_i fs b off hi
    rw [hi] at hk
    obtain ⟨F, hF, _, hj⟩ := hk
    unfold placeS at e
    cases hd : fs.drop f with
    | nil => rw [hd] at e; cases e
    | cons p l =>
      rw [hd] at e
      simp only at e
      cases hz : Nat.beq p.2.1 0 with
      | true => rw [hz] at e; cases e
      | false =>
        rw [hz] at e
        simp only [cond_false, Option.some.injEq] at e
        subst e
        obtain ⟨fd, hfd, h1, hsz, _⟩ := hj f p (fields_at (F := F) hd)
        cases hv with
        | @ptr _ b' s _ hρ =>
          refine ⟨_, .ptr _ hρ, ?_⟩
          have hne : ¬ p.2.1 = 0 := fun e => by rw [e] at hz; cases hz
          simp [Instr.fieldAt, run_underlying hF, hfd, Instr.sureAddr, fieldPlace, hsz.run, hne, add_off, h1]
  · cases e

theorem run_part {ρ : Nam} {t : TypeId} {agg : Bool} {sz off : Nat} {cs ds : List Value} {r : Value} (ha : AggOK P t agg) (hs : SzOK P t sz) (e : part agg cs off sz = some r) (h : VRs ρ cs ds) : ∃ c, VR ρ r c ∧ (Go.part t ⟨ds⟩ off).run P w = .ok c w := by
  unfold Go.part
  cases agg with
  | true =>
    obtain ⟨hk, rfl⟩ := part_agg e
    refine ⟨_, ((h.drop off).take sz).agg, ?_⟩
    rw [Sem.run_bind, ha.run, Result.andThen_ok]
    simp only [if_true, Sem.run_bind, hs.run, Result.andThen_ok, Sem.run_pure, Result.ok.injEq, Value.agg.injEq, and_true]
    apply Array.ext'
    simp [Array.toList_extract, List.extract_eq_take_drop]
  | false =>
    obtain ⟨y, hy, hr⟩ := h.getE (part_one e)
    refine ⟨y, hr, ?_⟩
    rw [Sem.run_bind, ha.run, Result.andThen_ok]
    simp [hy]

theorem field_op {t : TypeId} {i : TI} {f : Nat} {v a r : Value} (hT : TyOK P t i) (e : fieldV i.k v f = some r) (hv : VR ρ v a) : ∃ c, VR ρ r c ∧ (Instr.field t a f).run P w = .ok c w := by
  have hk := hT.k
  unfold fieldV at e
  split at e
  · rename_i fs cs hi
    rw [hi] at hk
    obtain ⟨F, hF, _, hj⟩ := hk
    cases hd : fs.drop f with
    | nil => rw [hd] at e; cases e
    | cons p l =>
      rw [hd] at e
      obtain ⟨fd, hfd, h1, hsz, hag⟩ := hj f p (fields_at (F := F) hd)
      cases hv with
      | @agg a b h2 h3 =>
        simp only at e
        rw [h1] at e
        obtain ⟨c, hc, hr⟩ := run_part (P := P) (w := w) hag hsz e ⟨h2, h3⟩
        refine ⟨c, hc, ?_⟩
        simp [Instr.field, run_underlying hF, hfd, asAgg, hr]
  · cases e

theorem idx_ok {sz n : Nat} {v u a b r : Value} (e : idxAddr sz v u n = some r) (hv : VR ρ v a) (hu : VR ρ u b) :
    ∃ i off b' c k j s, v = .pointer (some ⟨i, off, none⟩) ∧ a = .pointer (some ⟨b', off, none⟩) ∧ ρ i = some (b', s) ∧ b = .int k j ∧ 0 ≤ j ∧ j < n ∧ c = .pointer (some ⟨b', off + j.toNat * sz, none⟩) ∧ VR ρ r c := by
  unfold idxAddr at e
  split at e
  · rename_i i off k j
    cases hb : (decide (0 ≤ j) && decide (j < n)) with
    | false => rw [hb] at e; cases e
    | true =>
      rw [hb] at e
      simp only [cond_true, Option.some.injEq] at e
      subst e
      simp only [Bool.and_eq_true, decide_eq_true_eq] at hb
      cases hv with
      | @ptr _ b' s _ hρ =>
        cases hu
        exact ⟨i, off, b', _, k, j, s, rfl, rfl, hρ, rfl, hb.1, hb.2, rfl, .ptr _ hρ⟩
  · cases e

theorem indexAddr_op {t : TypeId} {i : TI} {v u a b r : Value} (hT : TyOK P t i) (e : indexAddrV i.k v u = some r) (hv : VR ρ v a) (hu : VR ρ u b) : ∃ c, VR ρ r c ∧ (Instr.indexAt t a b).run P w = .ok c w := by
  have hk := hT.k
  unfold indexAddrV at e
  split at e
  · rename_i el sz by_ hi
    rw [hi] at hk
    obtain ⟨h1, I, z, h2, h3, _⟩ := hk
    split at e
    · rename_i ad n c
      cases hv with
      | @sl i' b' s off _ _ cap hρ hl hc =>
        obtain ⟨_, _, _, c, k, j, _, e1, e2, _, rfl, hj0, hjn, rfl, hr⟩ := idx_ok e (.ptr off hρ) hu
        cases e1; cases e2
        refine ⟨_, hr, ?_⟩
        have hs : SzOK P el sz := ⟨I, h2, h3⟩
        simp [Instr.indexAt, asIntOf, run_underlying h1, hj0, hjn, hs.run, add_off]
      | @sl0 i' b' s off off' _ hρ =>
        obtain ⟨_, _, _, c, k, j, _, _, _, _, rfl, hj0, hjn, _⟩ := idx_ok e (.ptr off hρ) hu
        simp at hjn
        omega
    · cases e
  · rename_i n el sz ag hi
    rw [hi] at hk
    obtain ⟨h1, hs, _⟩ := hk
    obtain ⟨i', off, b', c, k, j, s, rfl, rfl, hρ, rfl, hj0, hjn, rfl, hr⟩ := idx_ok e hv hu
    refine ⟨_, hr, ?_⟩
    simp [Instr.indexAt, asIntOf, run_underlying h1, Instr.sureAddr, hj0, hjn, hs.run, add_off]
  · cases e

theorem index_op {t : TypeId} {i : TI} {v u a b r : Value} (hT : TyOK P t i) (e : indexV i.k v u = some r) (hv : VR ρ v a) (hu : VR ρ u b) : ∃ c, VR ρ r c ∧ (Instr.index t a b).run P w = .ok c w := by
  have hk := hT.k
  unfold indexV at e
  split at e
  · rename_i n el sz ag cs k j hi
    rw [hi] at hk
    obtain ⟨h1, hs, ha⟩ := hk
    cases hb : (decide (0 ≤ j) && decide (j < n)) with
    | false => rw [hb] at e; cases e
    | true =>
      rw [hb] at e
      simp only [cond_true] at e
      simp only [Bool.and_eq_true, decide_eq_true_eq] at hb
      cases hu
      cases hv with
      | @agg x y h2 h3 =>
        obtain ⟨c, hc, hr⟩ := run_part (P := P) (w := w) ha hs e ⟨h2, h3⟩
        refine ⟨c, hc, ?_⟩
        simp [Instr.index, asIntOf, run_underlying h1, hb.1, hb.2, hs.run, hr]
  · rename_i s k j hi
    rw [hi] at hk
    have h1 : P.underlying t = some .string := hk
    cases hb : decide (0 ≤ j) with
    | false => rw [hb] at e; cases e
    | true =>
      rw [hb] at e
      simp only [cond_true] at e
      have hj : 0 ≤ j := by simpa using hb
      cases hv
      cases hu
      cases hd : s.data.toList.drop j.toNat with
      | nil => rw [hd] at e; cases e
      | cons x l =>
        rw [hd] at e
        simp only [Option.some.injEq] at e
        subst e
        refine ⟨_, .int _ _, ?_⟩
        have hx : s.data.toList[j.toNat]? = some x := by rw [← List.head?_drop, hd]; rfl
        have hx2 : s[j.toNat]? = some x := by
          have hlt : j.toNat < s.data.toList.length := (List.getElem?_eq_some_iff.1 hx).1
          have hlt2 : j.toNat < s.size := by simpa using hlt
          rw [getElem?_pos s j.toNat hlt2]
          have := (List.getElem?_eq_some_iff.1 hx).2
          have h3 : s.data[j.toNat] = x := by simpa using this
          exact congrArg some h3
        simp [Instr.index, asIntOf, run_underlying h1, hj, hx2]
  · cases e

theorem tup_op {v a r : Value} {ix : Nat} (e : tupAt v ix = some r) (hv : VR ρ v a) : ∃ c, VR ρ r c ∧ (Instr.extract a ix).run P w = .ok c w := by
  unfold tupAt at e
  split at e
  · cases hv with
    | @tup a b h1 h2 =>
      rw [List.head?_drop] at e
      obtain ⟨y, hy, hr⟩ := VRs.getE ⟨h1, h2⟩ e
      refine ⟨y, hr, ?_⟩
      simp [Instr.extract, hy]
  · cases e

theorem pick_op {c x y a b d r : Value} (e : pickV c x y = some r) (hc : VR ρ c d) (hx : VR ρ x a) (hy : VR ρ y b) : ∃ u, VR ρ r u ∧ (do pure (Next.value (if ← asBool d then a else b)) : Sem Next).run P w = .ok (.value u) w := by
  unfold pickV at e
  split at e
  · rename_i t
    simp only [Option.some.injEq] at e
    subst e
    cases hc
    cases t with
    | true => exact ⟨a, hx, by simp [asBool]⟩
    | false => exact ⟨b, hy, by simp [asBool]⟩
  · cases e
end
end Go.IM
