/- The leaner machine, told what comes next: the same machine. -/
import Derived.Test.YtamhdelomchleaaGreatF0
set_option linter.unusedVariables false
set_option linter.unusedSimpArgs false
namespace Go.IM

abbrev KK := Ex → Tr Value → M Value
abbrev ExecK := Nat → Code → Tr Value → KK → M Value
def KK.un (k : KK) (p : Ex × Tr Value) : M Value := k p.1 p.2

noncomputable def thenK (k : KK) (next : Tr Value → M Value) : KK := fun e tm => Ex.rec (motive := fun _ => M Value) (next tm) (fun id => k (.exit id) tm) (k .ret tm) e
noncomputable def blockK (id : Nat) (k : KK) : KK := fun e tm => Ex.rec (motive := fun _ => M Value) (k .normal tm) (fun j => k (bif Nat.beq j id then .normal else .exit j) tm) (k .ret tm) e
noncomputable def finK (T : Tab) (fn : Func) : KK := fun e tm => finM T fn (e, tm)

noncomputable def bodyK (T : Tab) (ex : ExecK) (fn : Func) (args : List Value) : M Value :=
  M.grd (Nat.ble args.length fn.ntmps && Nat.ble args.length 60000) fun _ => M.opt fn.body fun b => ex fn.ntmps b (params 0 args .nil) (finK T fn)

noncomputable def callK (T : Tab) (ex : ExecK) (g : FuncId) (args : List Value) : M Value :=
  match T.ov g with
  | some m => m args
  | none => M.opt (T.fn g) fun fn => bif T.un g then fun h n => (bodyK T ex fn args h n).unite else bodyK T ex fn args

noncomputable def yieldK (ex : ExecK) (l : Nat) (args : List Value) : M Value :=
  M.bind (loopM l) fun s => M.opt (setPs s.nt s.ps args s.tm) fun tm1 => ex s.nt s.assign tm1 fun e tm2 => M.grd (isNormal e) fun _ =>
    M.bind (loopM l) fun s2 => M.grd (isNormal s2.pend && !s2.busy) fun _ => M.bind (M.wr l { s2 with busy := true }.obj) fun _ =>
    ex s.nt s.body tm2 fun e3 _ => M.bind (loopM l) fun s3 => M.bind (M.wr l { s3 with pend := e3, busy := false }.obj) fun _ => M.pure (.bool (isNormal e3))

noncomputable def opsC (T : Tab) (call : Call) (yield : Yield) (nt : Nat) (ops : List Oper) (k : Tr Value → M Value) (l : List Oper) : Tr Value → M Value :=
  List.rec (motive := fun _ => Tr Value → M Value) k (fun o _ ih tm => stepK T call yield nt ops tm o ih) l

noncomputable def codeK (c : Code) : Tab → ExecK → Nat → Tr Value → KK → M Value :=
  Code.rec (motive := fun _ => Tab → ExecK → Nat → Tr Value → KK → M Value)
    (fun _ _ _ tm k => k .normal tm)
    (fun _ ops d => fun T ex nt tm k => Bool.rec (motive := fun _ => M Value) (opsC T (callK T ex) (yieldK ex) nt ops.toList (k .normal) ops.toList tm) (M.bind (drawF T (callK T ex) (yieldK ex) nt ops.toList ops.toList [] tm) (k .normal)) d)
    (fun a b _ _ => fun T ex nt tm k => ex nt a tm (thenK k fun tm => ex nt b tm k))
    (fun x a b _ _ => fun T ex nt tm k => M.opt (evF x tm) fun v => M.opt (boolV v) fun t => Bool.rec (motive := fun _ => M Value) (ex nt b tm k) (ex nt a tm k) t)
    (fun id a _ => fun T ex nt tm k => ex nt a tm (blockK id k))
    (fun a _ => fun T ex nt tm k => ex nt a tm (thenK k fun tm => ex nt (.loop a) tm k))
    (fun g ps assign body _ _ => fun T ex nt tm k => M.bind (rangeG (callK T ex) nt g ps.toList assign body tm) (KK.un k))
    (fun id => fun T ex nt tm k => k (.exit id) tm)
    (fun _ _ => fun T ex nt tm k => M.fail)
    (fun _ => fun T ex nt tm k => k .normal tm)
    (fun _ => fun T ex nt tm k => M.fail)
    (fun T ex nt tm k => k .ret tm)
    (fun _ => fun T ex nt tm k => M.fail) c

noncomputable def execK (T : Tab) (f : Nat) : ExecK :=
  Nat.rec (motive := fun _ => ExecK) (fun _ _ _ _ => M.fail) (fun _ ih => fun nt c tm k => codeK c T ih nt tm k) f

/-- The one and the other. -/
def Same (ex : Exec) (exk : ExecK) : Prop := ∀ nt c tm k, exk nt c tm k = M.bind (ex nt c tm) (KK.un k)

section
variable {T : Tab} {ex : Exec} {exk : ExecK} (h : Same ex exk)
include h
theorem bodyK_eq (fn : Func) (args : List Value) : bodyK T exk fn args = bodyM T ex fn args := by
  unfold bodyK bodyM
  congr 1
  funext _
  congr 1
  funext b
  rw [h]
  rfl
theorem callK_eq (g : FuncId) (args : List Value) : callK T exk g args = callG T ex g args := by
  have hb : bodyK T exk = bodyM T ex := funext fun fn => funext fun args => bodyK_eq h fn args
  unfold callK callG
  rw [hb]
  rfl
theorem yieldK_eq (l : Nat) (args : List Value) : yieldK exk l args = yieldG ex l args := by
  unfold yieldK yieldG
  congr 1
  funext s
  congr 1
  funext tm1
  rw [h]
  congr 1
  funext p
  simp only [KK.un]
  congr 1
  funext _
  congr 1
  funext s2
  congr 1
  funext _
  congr 1
  funext _
  rw [h]
  rfl
omit h in
theorem opsC_eq (nt : Nat) (ops : List Oper) (k : Tr Value → M Value) (call : Call) (yield : Yield) : ∀ (l : List Oper) (tm : Tr Value), opsC T call yield nt ops k l tm = M.bind (opsM T call yield nt ops l tm) k
  | [], tm => by
    unfold opsM
    rw [bind_pure]
    rfl
  | o :: rest, tm => by
    show stepK T call yield nt ops tm o (opsC T call yield nt ops k rest) = _
    unfold opsM
    rw [stepK_eq, bind_assoc]
    congr 1
    funext tm
    exact opsC_eq nt ops k call yield rest tm
theorem then_eq (m : M (Ex × Tr Value)) (b : Code) (nt : Nat) (k : KK) : M.bind m (KK.un (thenK k fun tm => exk nt b tm k)) = M.bind (M.bind m (thenM (ex nt b))) (KK.un k) := by
  rw [bind_assoc]
  congr 1
  funext p
  obtain ⟨e, tm⟩ := p
  cases e with
  | normal => exact h nt b tm k
  | exit id => exact (bind_pure _ _).symm
  | ret => exact (bind_pure _ _).symm
theorem codeK_eq (nt : Nat) (c : Code) (tm : Tr Value) (k : KK) : codeK c T exk nt tm k = M.bind (codeM T ex nt c tm) (KK.un k) := by
  have hcall : callK T exk = callG T ex := funext fun g => funext fun args => callK_eq h g args
  have hy : yieldK exk = yieldG ex := funext fun l => funext fun args => yieldK_eq h l args
  cases c with
  | skip => exact (bind_pure _ _).symm
  | region id ops d =>
    cases d with
    | false =>
      show opsC _ _ _ _ _ _ _ _ = M.bind (M.bind (opsM _ _ _ _ _ _ _) norm) _
      rw [opsC_eq, hcall, hy, bind_assoc]
      congr 1
      funext tm
      exact (bind_pure _ _).symm
    | true =>
      show M.bind (drawF _ _ _ _ _ _ _ _) _ = M.bind (M.bind (drawM _ _ _ _ _ _ _ _) norm) _
      rw [drawF_eq, hcall, hy, bind_assoc]
      congr 1
      funext tm
      exact (bind_pure _ _).symm
  | seq a b =>
    show exk nt a tm (thenK k fun tm => exk nt b tm k) = M.bind (M.bind (ex nt a tm) (thenM (ex nt b))) (KK.un k)
    rw [h]
    exact then_eq h _ b nt k
  | loop a =>
    show exk nt a tm (thenK k fun tm => exk nt (.loop a) tm k) = M.bind (M.bind (ex nt a tm) (thenM (ex nt (.loop a)))) (KK.un k)
    rw [h]
    exact then_eq h _ (.loop a) nt k
  | cond x a b =>
    show (M.opt (evF x tm) fun v => M.opt (boolV v) fun t => @Bool.rec (fun _ => M Value) (exk nt b tm k) (exk nt a tm k) t) = M.bind (M.opt (ev tm x) fun v => M.opt (boolV v) fun t => ex nt (bif t then a else b) tm) (KK.un k)
    rw [evF_eq, bind_opt]
    congr 1
    funext v
    rw [bind_opt]
    congr 1
    funext t
    cases t
    · exact h nt b tm k
    · exact h nt a tm k
  | block id a =>
    show exk nt a tm (blockK id k) = M.bind (M.bind (ex nt a tm) (inBlock id)) (KK.un k)
    rw [h, bind_assoc]
    congr 1
    funext p
    obtain ⟨e, tm⟩ := p
    cases e with
    | normal => exact (bind_pure _ _).symm
    | exit j => exact (bind_pure _ _).symm
    | ret => exact (bind_pure _ _).symm
  | rangeFunc g ps assign body =>
    show M.bind (rangeG (callK T exk) _ _ _ _ _ _) _ = M.bind (rangeG (callG T ex) _ _ _ _ _ _) _
    rw [hcall]
  | exit id => exact (bind_pure _ _).symm
  | scope a => rfl
  | label l => exact (bind_pure _ _).symm
  | goto l => rfl
  | ret => exact (bind_pure _ _).symm
  | refuse w => rfl
end

theorem execK_same (T : Tab) : ∀ f, Same (exec T f) (execK T f)
  | 0 => fun _ _ _ _ => rfl
  | f + 1 => fun nt c tm k => codeK_eq (execK_same T f) nt c tm k

theorem callK_exec (T : Tab) (f : Nat) (g : FuncId) (args : List Value) : callK T (execK T f) g args = callG T (exec T f) g args := callK_eq (execK_same T f) g args
end Go.IM
