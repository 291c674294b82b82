/- The leaner machine and the model: one operation. -/
import Derived.Test.YtamhdelomchleaaGreatJ0
set_option linter.unusedVariables false
set_option linter.unusedSimpArgs false
namespace Go.IM
open Go.RowKit
open Go.MapKept (run_findKey run_setObj_map heap_set)

/-- The fence within a round, or without. -/
abbrev Fr (ro : Option Nat) : Fence := { Fence.wide with round := ro }

def FnOK (P : Program) (g : FuncId) (fn : Func) : Prop := P.funcs[g]? = some fn ∧ ∀ (args : Array Value) (w : World), (callFunc g args).run P w = .ok (.enter g args) w

structure TabOK (P : Program) (T : Tab) : Prop where
  ty : ∀ t i, T.ty t = some i → TyOK P t i
  fn : ∀ g fn, T.fn g = some fn → FnOK P g fn

section
variable {P : Program} {w : World} {ρ : Nam}

theorem FnOK.enter {g : FuncId} {fn : Func} (h : FnOK P g fn) (args : Array Value) (w : World) : (callFunc g args).run P w = .ok (.enter g args) w := h.2 args w

/-- A call: wherever it is well, the function is entered and comes back. -/
def CallOK (P : Program) (call : Call) : Prop :=
  ∀ {B : Nat} {w0 : World} {Ds : List Nat} {ρ : Nam} {h : Tr AObj} {n N : Nat} {w : World} {Q : Value → Tr AObj → Nat → Prop} {g : FuncId} {args as : List Value},
    MW (call g args) h n Q → (∀ v h' n', Q v h' n' → n' ≤ N) → Fresh ρ n N → B ≤ w0.heap.size → HR B w0 Ds ρ h w → VRs ρ args as →
    (∃ fn, FnOK P g fn) ∧ CallsIn Fence.wide 0 P g ⟨as⟩ w fun e w' => ∃ u, e = .returned u ∧ Post B w0 Ds ρ n Q u w'

/-- A call of yield. -/
def YieldOK (P : Program) (yield : Yield) : Prop :=
  ∀ {B : Nat} {w0 : World} {Ds : List Nat} {ρ : Nam} {h : Tr AObj} {n N : Nat} {w : World} {Q : Value → Tr AObj → Nat → Prop} {l b s : Nat} {args as : List Value},
    MW (yield l args) h n Q → (∀ v h' n', Q v h' n' → n' ≤ N) → Fresh ρ n N → B ≤ w0.heap.size → HR B w0 Ds ρ h w → ρ l = some (b, s) → VRs ρ args as →
    ∃ f tmps assign body, (Instr.yield b ⟨as⟩).run P w = .ok (.round b f tmps assign body) w ∧ RoundIn Fence.wide 0 P b f tmps assign body w fun e w' => ∃ u, e = .returned u ∧ Post B w0 Ds ρ n Q u w'

theorem wp_value {o : Oper} {a : Act} {w' : World} {u : Value} {ro : Option Nat} {K : Act → World → Prop} {QQ : Exit → Act → World → Prop} (hd : ∀ c, o.op ≠ .defer c)
    (hr : (execOp a.eval o).run P w = .ok (.value u) w') (hK : K (a.put o.dst u) w') : o.wpIn (Fr ro) 0 P a w K QQ :=
  ⟨fun _ _ => trivial, by rw [Oper.semAt_eq _ _ _ hd, hr]; exact hK⟩
theorem wp_skip {o : Oper} {a : Act} {w' : World} {ro : Option Nat} {K : Act → World → Prop} {QQ : Exit → Act → World → Prop} (hd : ∀ c, o.op ≠ .defer c)
    (hr : (execOp a.eval o).run P w = .ok .skip w') (hK : K (a.put o.dst undef) w') : o.wpIn (Fr ro) 0 P a w K QQ :=
  ⟨fun _ _ => trivial, by rw [Oper.semAt_eq _ _ _ hd, hr]; exact hK⟩

theorem builtin_ok {B : Nat} {w0 : World} {Ds : List Nat} {h : Tr AObj} {n N : Nat} {T : Tab} {b : Go.Builtin} {ats : List TypeId} {ty : TypeId} {cs : Array Bool} {args as : List Value} {Q : Value → Tr AObj → Nat → Prop}
    (hT : TabOK P T) (hm : MW (builtinM T b ats args) h n Q) (hN : ∀ v h' n', Q v h' n' → n' ≤ N) (hF : Fresh ρ n N) (hB : B ≤ w0.heap.size) (H : HR B w0 Ds ρ h w) (hv : VRs ρ args as) :
    ∃ u w', (builtin b ⟨ats⟩ ty cs ⟨as⟩).run P w = .ok (.value u) w' ∧ Post B w0 Ds ρ n Q u w' := by
  unfold builtinM at hm
  split at hm
  · exact hm.elim
  · rename_i x ys
    obtain ⟨c, us, rfl, hx, hys⟩ := hv.inv_cons
    split at hm
    · split at hm
      · rw [MW.opt] at hm
        obtain ⟨i, hi, hm⟩ := hm
        obtain ⟨u, hr, hp⟩ := len_ok (P := P) (ty := ty) (ts := []) hm (hT.ty _ _ hi) H hx
        rw [VRs.inv_nil hys]
        refine ⟨u, w, ?_, hp⟩
        simp only [builtin, Sem.run_bind, Sem.run_pure, hr, Result.andThen_ok]
      · exact hm.elim
    · split at hm
      · unfold clearB at hm
        rw [MW.opt] at hm
        obtain ⟨i, hi, hm⟩ := hm
        have hK := (hT.ty _ _ hi).k
        split at hm
        · rename_i e sz by_ hk
          rw [hk] at hK
          rw [MW.opt] at hm
          obtain ⟨ie, hie, hm⟩ := hm
          obtain ⟨u, w', hr, hp⟩ := clear_ok (ty := ty) hm hK (hT.ty _ _ hie) hB H hx
          rw [VRs.inv_nil hys]
          refine ⟨u, w', ?_, hp⟩
          simp only [builtin, Sem.run_bind, Sem.run_pure, hr, Result.andThen_ok]
        · exact hm.elim
      · exact hm.elim
    · rw [MW.opt] at hm
      obtain ⟨r, hr, hm⟩ := hm
      obtain ⟨u, hu, hrun⟩ := fold_op (P := P) (w := w) (fun e hv hu => min_op e hv hu) hr hx hys
      refine ⟨u, w, ?_, Post.here hm H hu⟩
      simp only [builtin, Builtin.min_, Sem.run_bind, Sem.run_pure, hrun, Result.andThen_ok]
    · rw [MW.opt] at hm
      obtain ⟨r, hr, hm⟩ := hm
      obtain ⟨u, hu, hrun⟩ := fold_op (P := P) (w := w) (fun e hv hu => max_op e hv hu) hr hx hys
      refine ⟨u, w, ?_, Post.here hm H hu⟩
      simp only [builtin, Builtin.max_, Sem.run_bind, Sem.run_pure, hrun, Result.andThen_ok]
    · split at hm
      · rename_i y t t2
        obtain ⟨d, us', rfl, hy, hnil⟩ := hys.inv_cons
        rw [VRs.inv_nil hnil]
        unfold appB at hm
        rw [MW.grd] at hm
        obtain ⟨ht, hm⟩ := hm
        have ht := Nat.eq_of_beq_eq_true ht
        subst ht
        rw [MW.opt] at hm
        obtain ⟨i, hi, hm⟩ := hm
        have hK := (hT.ty _ _ hi).k
        split at hm
        · rename_i e sz by_ hk
          rw [hk] at hK
          obtain ⟨u, w', hr, hp⟩ := append_ok (ty := ty) hm hK hN hF hB H hx hy
          refine ⟨u, w', ?_, hp⟩
          simp only [builtin, Sem.run_bind, Sem.run_pure, hr, Result.andThen_ok]
        · exact hm.elim
      · exact hm.elim
    · exact hm.elim

theorem arr_map (xs : Array Operand) (f : Operand → Value) : xs.map f = ⟨xs.toList.map f⟩ := by
  obtain ⟨l⟩ := xs
  simp

theorem call_ok {B : Nat} {w0 : World} {Ds : List Nat} {h : Tr AObj} {n N nt : Nat} {T : Tab} {call : Call} {yield : Yield} {tm : Tr Value} {o : Oper} {c : Go.Call} {a : Act} {Q : Value → Tr AObj → Nat → Prop} {ro : Option Nat} {K : Act → World → Prop} {QQ : Exit → Act → World → Prop}
    (hT : TabOK P T) (HC : CallOK P call) (HY : YieldOK P yield) (ho : o.op = .call c) (hm : MW (opCall T call yield tm c) h n Q) (hN : ∀ v h' n', Q v h' n' → n' ≤ N) (hF : Fresh ρ n N) (hB : B ≤ w0.heap.size) (H : HR B w0 Ds ρ h w)
    (hTR : TR ρ nt tm a.tmps) (hK : ∀ u w', Post B w0 Ds ρ n Q u w' → K (a.put o.dst u) w') : o.wpIn (Fr ro) 0 P a w K QQ := by
  unfold opCall at hm
  rw [MW.opt] at hm
  obtain ⟨args, ha, hm⟩ := hm
  have hargs := evs_ok hTR ha
  have hd : ∀ c, o.op ≠ .defer c := fun c e => by rw [ho] at e; cases e
  split at hm
  · rename_i b hcal
    obtain ⟨u, w', hr, hp⟩ := builtin_ok (ty := o.type) (cs := c.args.map fun | .const _ => true | _ => false) hT hm hN hF hB H hargs
    refine wp_value hd ?_ (hK _ _ hp)
    simp only [execOp, ho, resolve, hcal, Sem.run_bind, Sem.run_pure, Result.andThen_ok, invoke, arr_map c.args a.eval]
    exact hr
  · rename_i f hcal
    rw [MW.opt] at hm
    obtain ⟨v, hv, hm⟩ := hm
    have hfv := ev_ok hTR hv
    unfold callV at hm
    split at hm
    · rename_i g first cap
      generalize hf : a.eval f = fv at hfv
      cases hfv with
      | @fn _ fa fb ca cb h1 h2 h3 h4 =>
        have hvs : VRs ρ (fa ++ args ++ ca) (fb ++ c.args.toList.map a.eval ++ cb) := (VRs.append ⟨h1, h2⟩ hargs).append ⟨h3, h4⟩
        obtain ⟨⟨fn, hfn⟩, hcall⟩ := HC hm hN hF hB H hvs
        refine ⟨fun _ _ => trivial, ?_⟩
        have hrun : (execOp a.eval o).run P w = .ok (.enter g ⟨fb ++ c.args.toList.map a.eval ++ cb⟩) w := by
          simp only [execOp, ho, resolve, hcal, hf, Deferred.ofValue, Sem.run_bind, Sem.run_pure, Result.andThen_ok, invoke, arr_map c.args a.eval]
          have := hfn.enter (⟨fb⟩ ++ ⟨c.args.toList.map a.eval⟩ ++ ⟨cb⟩) w
          rw [this]
          simp
        rw [Oper.semAt_eq _ _ _ hd, hrun, Oper.uponIn_enter]
        refine ⟨fun h => (by cases h), ?_⟩
        refine CallsIn.mono (show CallsIn (Fr ro) 0 P g _ w _ from hcall) ?_
        rintro e w' ⟨u, rfl, hp⟩
        exact hK _ _ hp
    · rename_i l first cap
      split at hm
      · rename_i hfi hca
        generalize hf : a.eval f = fv at hfv
        cases hfv with
        | @yld _ b s hρ =>
          obtain ⟨f', tmps, assign, body, hy, hround⟩ := HY hm hN hF hB H hρ hargs
          refine ⟨fun _ _ => trivial, ?_⟩
          have hrun : (execOp a.eval o).run P w = .ok (.round b f' tmps assign body) w := by
            simp only [execOp, ho, resolve, hcal, hf, Deferred.ofValue, Sem.run_bind, Sem.run_pure, Result.andThen_ok, invoke, arr_map c.args a.eval]
            rw [← hy]
            simp
          rw [Oper.semAt_eq _ _ _ hd, hrun, Oper.uponIn_round]
          refine ⟨fun h => (by cases h), ?_⟩
          refine RoundIn.mono (show RoundIn (Fr ro) 0 P b f' tmps assign body w _ from hround) ?_
          rintro e w' ⟨u, rfl, hp⟩
          exact hK _ _ hp
      · exact hm.elim
    · exact hm.elim
  · exact hm.elim

theorem eqV_int {K : K} {k : IntKind} {n : Int} {u : Value} : eqV K (.int k n) u = none := by
  unfold eqV
  cases K <;> rfl

theorem evo_ovr {nt : Nat} {tm : Tr Value} {a : Act} (h : TR ρ nt tm a.tmps) {x : Option Operand} {v : Option Value} (e : evo tm x = some v) : OVR ρ v (x.map a.eval) := by
  rcases evo_ok h e with ⟨rfl, rfl⟩ | ⟨y, u, rfl, rfl, hv⟩
  · exact .inl ⟨rfl, rfl⟩
  · exact .inr ⟨_, _, rfl, rfl, hv⟩

theorem opM_ok {B : Nat} {w0 : World} {Ds : List Nat} {h : Tr AObj} {n N nt : Nat} {T : Tab} {call : Call} {yield : Yield} {tm : Tr Value} {o : Oper} {a : Act} {Q : Value → Tr AObj → Nat → Prop} {ro : Option Nat} {K : Act → World → Prop} {QQ : Exit → Act → World → Prop}
    (hT : TabOK P T) (HC : CallOK P call) (HY : YieldOK P yield) (hm : MW (opM T call yield tm o.op) h n Q) (hN : ∀ v h' n', Q v h' n' → n' ≤ N) (hF : Fresh ρ n N) (hB : B ≤ w0.heap.size) (H : HR B w0 Ds ρ h w)
    (hTR : TR ρ nt tm a.tmps) (hK : ∀ u w', Post B w0 Ds ρ n Q u w' → K (a.put o.dst u) w') : o.wpIn (Fr ro) 0 P a w K QQ := by
  generalize ho : o.op = p at hm
  unfold opM at hm
  have hd : (∀ c, p ≠ .defer c) → ∀ c, o.op ≠ .defer c := fun hp c e => by rw [ho] at e; exact hp c e
  split at hm
  -- move, assign
  · rw [MW.opt] at hm
    obtain ⟨v, hv, hm⟩ := hm
    refine wp_value (hd (by simp)) ?_ (hK _ _ (Post.here hm H (ev_ok hTR hv)))
    simp only [execOp, ho, Sem.run_pure]
  · rw [MW.opt] at hm
    obtain ⟨v, hv, hm⟩ := hm
    refine wp_value (hd (by simp)) ?_ (hK _ _ (Post.here hm H (ev_ok hTR hv)))
    simp only [execOp, ho, Sem.run_pure]
  -- pick
  · unfold opPick at hm
    rw [MW.opt] at hm
    obtain ⟨c, hc, hm⟩ := hm
    rw [MW.opt] at hm
    obtain ⟨x, hx, hm⟩ := hm
    rw [MW.opt] at hm
    obtain ⟨y, hy, hm⟩ := hm
    rw [MW.opt] at hm
    obtain ⟨r, hr, hm⟩ := hm
    obtain ⟨u, hu, hrun⟩ := pick_op (P := P) (w := w) hr (ev_ok hTR hc) (ev_ok hTR hx) (ev_ok hTR hy)
    refine wp_value (hd (by simp)) ?_ (hK _ _ (Post.here hm H hu))
    simp only [execOp, ho]
    exact hrun
  -- alloc
  · unfold opAlloc at hm
    rw [MW.opt] at hm
    obtain ⟨i, hi, hm⟩ := hm
    obtain ⟨u, w', hrun, hp⟩ := alloc_ok hm (hT.ty _ _ hi) hN hF hB H
    refine wp_value (hd (by simp)) ?_ (hK _ _ hp)
    simp only [execOp, ho, Sem.run_bind, hrun, Result.andThen_ok, Sem.run_pure]
  -- box
  · unfold opBox at hm
    rw [MW.opt] at hm
    obtain ⟨v, hv, hm⟩ := hm
    obtain ⟨u, w', hrun, hp⟩ := box_ok (P := P) hm hN hF hB H (ev_ok hTR hv)
    refine wp_value (hd (by simp)) ?_ (hK _ _ hp)
    simp only [execOp, ho, Sem.run_bind, hrun, Result.andThen_ok, Sem.run_pure]
  -- build
  · rename_i t ps
    unfold opBuild at hm
    rw [MW.opt] at hm
    obtain ⟨i, hi, hm⟩ := hm
    rw [MW.opt] at hm
    obtain ⟨vs, hvs, hm⟩ := hm
    obtain ⟨v, u, hq, hu, hrun⟩ := build_ok (P := P) (w := w) hm (hT.ty _ _ hi) (evp_ok hTR hvs)
    refine wp_value (hd (by simp)) ?_ (hK _ _ (Post.here hq H hu))
    have he : (ps.map fun (i, x) => (i, a.eval x)) = ⟨ps.toList.map fun p => (p.1, a.eval p.2)⟩ := by obtain ⟨l⟩ := ps; simp
    simp only [execOp, ho, Sem.run_bind, he, hrun, Result.andThen_ok, Sem.run_pure]
  -- buildSlice
  · rename_i t len ps
    unfold opBuildSlice at hm
    rw [MW.opt] at hm
    obtain ⟨i, hi, hm⟩ := hm
    rw [MW.opt] at hm
    obtain ⟨vs, hvs, hm⟩ := hm
    have hk := (hT.ty _ _ hi).k
    split at hm
    · rename_i e sz by_ hk'
      rw [hk'] at hk
      rw [MW.opt] at hm
      obtain ⟨ie, hie, hm⟩ := hm
      obtain ⟨u, w', hrun, hp⟩ := buildSlice_ok hm hk (hT.ty _ _ hie) (evp_ok hTR hvs) hN hF hB H
      refine wp_value (hd (by simp)) ?_ (hK _ _ hp)
      have he : (ps.map fun (i, x) => (i, a.eval x)) = ⟨ps.toList.map fun p => (p.1, a.eval p.2)⟩ := by obtain ⟨l⟩ := ps; simp
      simp only [execOp, ho, Sem.run_bind, he, hrun, Result.andThen_ok, Sem.run_pure]
    · exact hm.elim
  -- load
  · unfold opLoad at hm
    rw [MW.opt] at hm
    obtain ⟨i, hi, hm⟩ := hm
    rw [MW.opt] at hm
    obtain ⟨v, hv, hm⟩ := hm
    have hva := ev_ok hTR hv
    obtain ⟨r, c, p, hq, hrc, hp, hrun⟩ := load_ok (P := P) hm (hT.ty _ _ hi) H hva
    refine wp_value (hd (by simp)) ?_ (hK _ _ (Post.here hq H hrc))
    simp only [execOp, ho, Instr.loadAt, hp, Instr.sureAddr, Sem.run_bind, hrun, Result.andThen_ok, Sem.run_pure]
  -- store
  · unfold opStore at hm
    rw [MW.opt] at hm
    obtain ⟨i, hi, hm⟩ := hm
    rw [MW.opt] at hm
    obtain ⟨v, hv, hm⟩ := hm
    rw [MW.opt] at hm
    obtain ⟨x, hx, hm⟩ := hm
    obtain ⟨p, h', w', hp, hrun, hq, H'⟩ := store_ok (P := P) hm (hT.ty _ _ hi) hB H (ev_ok hTR hv) (ev_ok hTR hx)
    refine wp_skip (hd (by simp)) ?_ (hK _ _ (Post.here hq H' VR.undef))
    simp only [execOp, ho, Instr.storeAt, hp, Instr.sureAddr, Sem.run_bind, hrun, Result.andThen_ok, Sem.run_pure]
  -- nilCheck
  · rename_i x0
    rw [MW.opt] at hm
    obtain ⟨v, hv, hm⟩ := hm
    rw [MW.opt] at hm
    obtain ⟨r, hr, hm⟩ := hm
    have hva := ev_ok hTR hv
    have : r = v ∧ (execOp a.eval o).run P w = .ok (.value (a.eval x0)) w := by
      unfold nilV at hr
      split at hr
      · cases hr
        refine ⟨rfl, ?_⟩
        generalize hx : a.eval x0 = q at hva
        cases hva
        simp only [execOp, ho, hx, Sem.run_pure]
      · cases hr
        refine ⟨rfl, ?_⟩
        generalize hx : a.eval x0 = q at hva
        cases hva
        simp only [execOp, ho, hx, Sem.run_pure]
      · cases hr
        refine ⟨rfl, ?_⟩
        generalize hx : a.eval x0 = q at hva
        cases hva
        simp only [execOp, ho, hx, Sem.run_pure]
      · cases hr
    obtain ⟨rfl, hrun⟩ := this
    exact wp_value (hd (by simp)) hrun (hK _ _ (Post.here hm H hva))
  -- binOp
  · rename_i op t x y _
    rw [MW.opt] at hm
    obtain ⟨v, hv, hm⟩ := hm
    rw [MW.opt] at hm
    obtain ⟨u, hu, hm⟩ := hm
    have hva := ev_ok hTR hv
    have hub := ev_ok hTR hu
    unfold binM at hm
    split at hm
    · rw [MW.opt] at hm
      obtain ⟨r, hr, hm⟩ := hm
      generalize hxe : a.eval x = xa at hva
      generalize hye : a.eval y = ya at hub
      cases hva
      cases hub
      obtain ⟨h1, h2⟩ := bin_int (P := P) (w := w) (ρ := ρ) t hr
      have hg := fun k m b => eq_guard (P := P) (w := w) (op := op) (t := t) (x := x) (y := y) (a := .int k m) (b := b) (by intro cs e; cases e) (by intro e; cases e)
      refine wp_value (hd (by simp)) ?_ (hK _ _ (Post.here hm H h1))
      simp only [execOp, ho, hxe, hye, Sem.run_bind, hg, h2, Result.andThen_ok, Sem.run_pure]
    · rename_i hni
      rw [MW.opt] at hm
      obtain ⟨i, hi, hm⟩ := hm
      rw [MW.opt] at hm
      obtain ⟨r, hr, hm⟩ := hm
      have hne : ∀ k n, v ≠ .int k n := fun k n e => by
        subst e
        unfold eqOp at hr
        rw [eqV_int] at hr
        cases hr
      obtain ⟨h1, h2⟩ := eq_op (P := P) (w := w) (x := x) (y := y) (hT.ty _ _ hi) hr hva hub hne
      refine wp_value (hd (by simp)) ?_ (hK _ _ (Post.here hm H h1))
      simp only [execOp, ho]
      rw [Sem.run_bind, h2, Result.andThen_ok, Sem.run_pure]
  -- unOp
  · rw [MW.opt] at hm
    obtain ⟨v, hv, hm⟩ := hm
    rw [MW.opt] at hm
    obtain ⟨r, hr, hm⟩ := hm
    obtain ⟨h1, h2⟩ := un_op (P := P) (w := w) hr (ev_ok hTR hv)
    refine wp_value (hd (by simp)) ?_ (hK _ _ (Post.here hm H h1))
    simp only [execOp, ho, Sem.run_bind, h2, Result.andThen_ok, Sem.run_pure]
  -- convert
  · rw [MW.opt] at hm
    obtain ⟨i, hi, hm⟩ := hm
    rw [MW.opt] at hm
    obtain ⟨j, hj, hm⟩ := hm
    rw [MW.opt] at hm
    obtain ⟨v, hv, hm⟩ := hm
    rw [MW.opt] at hm
    obtain ⟨r, hr, hm⟩ := hm
    obtain ⟨h1, h2⟩ := conv_op (P := P) (w := w) (hT.ty _ _ hi) (hT.ty _ _ hj) hr (ev_ok hTR hv)
    refine wp_value (hd (by simp)) ?_ (hK _ _ (Post.here hm H h1))
    simp only [execOp, ho, Sem.run_bind, h2, Result.andThen_ok, Sem.run_pure]
  -- makeFunc
  · rename_i fn first cap
    unfold opFunc at hm
    rw [MW.opt] at hm
    obtain ⟨x, hx, hm⟩ := hm
    rw [MW.opt] at hm
    obtain ⟨y, hy, hm⟩ := hm
    rw [MW.opt] at hm
    obtain ⟨r, hr, hm⟩ := hm
    have hxs := evs_ok hTR hx
    have hys := evs_ok hTR hy
    unfold funcV at hr
    split at hr
    · cases hr
      refine wp_value (hd (by simp)) ?_ (hK _ _ (Post.here hm H (VRs.fn _ hxs hys)))
      simp only [execOp, ho, Instr.makeFunc, arr_map, Sem.run_bind, Sem.run_pure, Result.andThen_ok]
    · cases hr
  -- makeMap
  · rename_i t r
    rw [MW.opt] at hm
    obtain ⟨i, hi, hm⟩ := hm
    rw [MW.grd] at hm
    obtain ⟨hk, hm⟩ := hm
    obtain ⟨kt, et, kk, ht, hkk⟩ := isMapK_ok (hT.ty _ _ hi) hk
    unfold opMap at hm
    rw [MW.opt] at hm
    obtain ⟨v, hv, hm⟩ := hm
    rw [MW.grd] at hm
    obtain ⟨hh, hm⟩ := hm
    have hvr := evo_ok hTR hv
    have hp := map_ok (w := w) (t := t) hm hN hF hB H
    refine wp_value (hd (by simp)) ?_ (hK _ _ hp)
    have hrun : (Instr.makeMap t (r.map a.eval)).run P w = .ok (.map (some w.heap.size)) (w.alloc (.map #[] 0)) := by
      rcases hvr with ⟨rfl, hr⟩ | ⟨u, c, rfl, hr, hvc⟩
      · simp [Instr.makeMap]
      · rw [hr] at hh
        unfold hintOk at hh
        split at hh
        · rename_i e; cases e
        · rename_i k n e
          cases e
          simp only [Option.map_some]
          generalize a.eval u = q at hvc
          cases hvc
          simp [Instr.makeMap, run_underlying ht, asInt, asIntOf]
        · cases hh
    simp only [execOp, ho, Sem.run_bind, hrun, Result.andThen_ok, Sem.run_pure]
  -- makeSlice
  · unfold opMake at hm
    rw [MW.opt] at hm
    obtain ⟨i, hi, hm⟩ := hm
    rw [MW.opt] at hm
    obtain ⟨v, hv, hm⟩ := hm
    rw [MW.opt] at hm
    obtain ⟨u, hu, hm⟩ := hm
    obtain ⟨r, w', hrun, hp⟩ := make_ok hm (hT.ty _ _ hi) hT.ty (ev_ok hTR hv) (ev_ok hTR hu) hN hF hB H
    refine wp_value (hd (by simp)) ?_ (hK _ _ hp)
    simp only [execOp, ho, Sem.run_bind, hrun, Result.andThen_ok, Sem.run_pure]
  -- slice
  · unfold opSlice at hm
    rw [MW.opt] at hm
    obtain ⟨i, hi, hm⟩ := hm
    rw [MW.opt] at hm
    obtain ⟨v, hv, hm⟩ := hm
    rw [MW.opt] at hm
    obtain ⟨l, hl, hm⟩ := hm
    rw [MW.opt] at hm
    obtain ⟨hh, hhi, hm⟩ := hm
    obtain ⟨u, hrun, hp⟩ := slice_ok (P := P) hm (hT.ty _ _ hi) H (ev_ok hTR hv) (evo_ovr hTR hl) (evo_ovr hTR hhi)
    refine wp_value (hd (by simp)) ?_ (hK _ _ hp)
    simp only [execOp, ho, Option.map_none, Sem.run_bind, hrun, Result.andThen_ok, Sem.run_pure]
  -- fieldAddr
  · rw [MW.opt] at hm
    obtain ⟨i, hi, hm⟩ := hm
    rw [MW.opt] at hm
    obtain ⟨v, hv, hm⟩ := hm
    rw [MW.opt] at hm
    obtain ⟨r, hr, hm⟩ := hm
    obtain ⟨u, hu, hrun⟩ := fieldAddr_op (P := P) (w := w) (hT.ty _ _ hi) hr (ev_ok hTR hv)
    refine wp_value (hd (by simp)) ?_ (hK _ _ (Post.here hm H hu))
    simp only [execOp, ho, Sem.run_bind, hrun, Result.andThen_ok, Sem.run_pure]
  -- field
  · rw [MW.opt] at hm
    obtain ⟨i, hi, hm⟩ := hm
    rw [MW.opt] at hm
    obtain ⟨v, hv, hm⟩ := hm
    rw [MW.opt] at hm
    obtain ⟨r, hr, hm⟩ := hm
    obtain ⟨u, hu, hrun⟩ := field_op (P := P) (w := w) (hT.ty _ _ hi) hr (ev_ok hTR hv)
    refine wp_value (hd (by simp)) ?_ (hK _ _ (Post.here hm H hu))
    simp only [execOp, ho, Sem.run_bind, hrun, Result.andThen_ok, Sem.run_pure]
  -- indexAddr
  · rw [MW.opt] at hm
    obtain ⟨i, hi, hm⟩ := hm
    rw [MW.opt] at hm
    obtain ⟨v, hv, hm⟩ := hm
    rw [MW.opt] at hm
    obtain ⟨u, hu, hm⟩ := hm
    rw [MW.opt] at hm
    obtain ⟨r, hr, hm⟩ := hm
    obtain ⟨c, hc, hrun⟩ := indexAddr_op (P := P) (w := w) (hT.ty _ _ hi) hr (ev_ok hTR hv) (ev_ok hTR hu)
    refine wp_value (hd (by simp)) ?_ (hK _ _ (Post.here hm H hc))
    simp only [execOp, ho, Sem.run_bind, hrun, Result.andThen_ok, Sem.run_pure]
  -- index
  · rw [MW.opt] at hm
    obtain ⟨i, hi, hm⟩ := hm
    rw [MW.opt] at hm
    obtain ⟨v, hv, hm⟩ := hm
    rw [MW.opt] at hm
    obtain ⟨u, hu, hm⟩ := hm
    rw [MW.opt] at hm
    obtain ⟨r, hr, hm⟩ := hm
    obtain ⟨c, hc, hrun⟩ := index_op (P := P) (w := w) (hT.ty _ _ hi) hr (ev_ok hTR hv) (ev_ok hTR hu)
    refine wp_value (hd (by simp)) ?_ (hK _ _ (Post.here hm H hc))
    simp only [execOp, ho, Sem.run_bind, hrun, Result.andThen_ok, Sem.run_pure]
  -- lookup
  · rw [MW.opt] at hm
    obtain ⟨i, hi, hm⟩ := hm
    rw [MW.opt] at hm
    obtain ⟨v, hv, hm⟩ := hm
    rw [MW.opt] at hm
    obtain ⟨u, hu, hm⟩ := hm
    obtain ⟨c, hrun, hp⟩ := look_ok (P := P) hm (hT.ty _ _ hi) hT.ty H (ev_ok hTR hv) (ev_ok hTR hu)
    refine wp_value (hd (by simp)) ?_ (hK _ _ hp)
    simp only [execOp, ho, Sem.run_bind, hrun, Result.andThen_ok, Sem.run_pure]
  -- mapUpdate
  · rw [MW.opt] at hm
    obtain ⟨i, hi, hm⟩ := hm
    rw [MW.grd] at hm
    obtain ⟨hk, hm⟩ := hm
    rw [MW.opt] at hm
    obtain ⟨v, hv, hm⟩ := hm
    rw [MW.opt] at hm
    obtain ⟨k, hkk, hm⟩ := hm
    rw [MW.opt] at hm
    obtain ⟨u, hu, hm⟩ := hm
    obtain ⟨w', hrun, hp⟩ := upd_ok (P := P) hm (hT.ty _ _ hi) hk hB H (ev_ok hTR hv) (ev_ok hTR hkk) (ev_ok hTR hu)
    refine wp_skip (hd (by simp)) ?_ (hK _ _ hp)
    simp only [execOp, ho, Sem.run_bind, hrun, Result.andThen_ok, Sem.run_pure]
  -- extract
  · rw [MW.opt] at hm
    obtain ⟨v, hv, hm⟩ := hm
    rw [MW.opt] at hm
    obtain ⟨r, hr, hm⟩ := hm
    obtain ⟨c, hc, hrun⟩ := tup_op (P := P) (w := w) hr (ev_ok hTR hv)
    refine wp_value (hd (by simp)) ?_ (hK _ _ (Post.here hm H hc))
    simp only [execOp, ho, Sem.run_bind, hrun, Result.andThen_ok, Sem.run_pure]
  -- range
  · rw [MW.opt] at hm
    obtain ⟨i, hi, hm⟩ := hm
    rw [MW.grd] at hm
    obtain ⟨hk, hm⟩ := hm
    rw [MW.opt] at hm
    obtain ⟨v, hv, hm⟩ := hm
    obtain ⟨u, w', hrun, hp⟩ := range_ok (P := P) hm (hT.ty _ _ hi) hk hN hF hB H (ev_ok hTR hv)
    refine wp_value (hd (by simp)) ?_ (hK _ _ hp)
    simp only [execOp, ho, Sem.run_bind, hrun, Result.andThen_ok, Sem.run_pure]
  -- next
  · rw [MW.opt] at hm
    obtain ⟨v, hv, hm⟩ := hm
    obtain ⟨u, w', hrun, hp⟩ := next_ok (P := P) (ty := o.type) hm hB H (ev_ok hTR hv)
    refine wp_value (hd (by simp)) ?_ (hK _ _ hp)
    simp only [execOp, ho, Sem.run_bind, hrun, Result.andThen_ok, Sem.run_pure]
  -- entry
  · rw [MW.opt] at hm
    obtain ⟨v, hv, hm⟩ := hm
    obtain ⟨u, hrun, hp⟩ := entry_ok (P := P) hm H (ev_ok hTR hv)
    refine wp_value (hd (by simp)) ?_ (hK _ _ hp)
    simp only [execOp, ho, Sem.run_bind, hrun, Result.andThen_ok, Sem.run_pure]
  -- call
  · exact call_ok hT HC HY ho hm hN hF hB H hTR hK
  · exact hm.elim
end
end Go.IM
