/- The leaner machine: every run hangs on what it reads alone. -/
import Derived.Test.YtamhdelomchleaaGreatI2
set_option linter.unusedVariables false
set_option linter.unusedSimpArgs false
namespace Go.IM
namespace Loc

theorem cellsM (b : Nat) : Loc (cellsM b) := .bind (.rd b) fun o => by cases o <;> first | exact .pure _ | exact .fail
theorem mapM (b : Nat) : Loc (mapM b) := .bind (.rd b) fun o => by cases o <;> first | exact .pure _ | exact .fail
theorem loadM (i : TI) (a : Value) : Loc (loadM i a) := by
  unfold IM.loadM
  split
  · exact .bind (.cellsM _) fun c => .opt fun v => .pure _
  · exact .fail
theorem storeM (i : TI) (a v : Value) : Loc (storeM i a v) := by
  unfold IM.storeM
  split
  · exact .bind (.cellsM _) fun c => .grd (.bind (.wr _ _) fun _ => .pure _)
  · exact .fail
theorem sliceCells (sz : Nat) (v : Value) : Loc (sliceCells sz v) := by
  unfold IM.sliceCells
  split
  · exact .pure _
  · exact .bind (.cellsM _) fun c => .grd (.pure _)
  · exact .fail
theorem newSlice (e : TypeId) (sz n : Nat) (cs : List Value) : Loc (newSlice e sz n cs) := .bind (.new _) fun _ => .pure _
theorem appendM (e : TypeId) (sz by_ : Nat) (s x : Value) : Loc (appendM e sz by_ s x) := by
  unfold IM.appendM
  split
  · refine .grd (.bind (.sliceCells _ _) fun new => .grd (.ite (.pure _) ?_))
    split
    · exact .newSlice _ _ _ _
    · exact .bind (.sliceCells _ _) fun _ => .bind (.kill _) fun _ => .newSlice _ _ _ _
    · exact .fail
  · exact .fail
theorem clearM (z : List Value) (sz : Nat) (x : Value) : Loc (clearM z sz x) := by
  unfold IM.clearM
  split
  · exact .pure _
  · exact .ite (.pure _) (.bind (.cellsM _) fun c => .grd (.bind (.wr _ _) fun _ => .pure _))
  · exact .fail
theorem lenM (k : K) (x : Value) : Loc (lenM k x) := by
  unfold IM.lenM
  split
  · exact .pure _
  · exact .pure _
  · exact .bind (.mapM _) fun _ => .pure _
  · exact .fail
theorem appB (T : Tab) (t t2 : TypeId) (s x : Value) : Loc (appB T t t2 s x) := by
  refine .grd (.opt fun i => ?_)
  split
  · exact .appendM _ _ _ _ _
  · exact .fail
theorem clearB (T : Tab) (t : TypeId) (x : Value) : Loc (clearB T t x) := by
  refine .opt fun i => ?_
  split
  · exact .opt fun _ => .clearM _ _ _
  · exact .fail
theorem builtinM (T : Tab) (b : Builtin) (ats : List TypeId) (args : List Value) : Loc (builtinM T b ats args) := by
  unfold IM.builtinM
  split
  · exact .fail
  · split
    · split
      · exact .opt fun _ => .lenM _ _
      · exact .fail
    · split
      · exact .clearB _ _ _
      · exact .fail
    · exact .opt fun _ => .pure _
    · exact .opt fun _ => .pure _
    · split
      · exact .appB _ _ _ _ _
      · exact .fail
    · exact .fail
theorem sliceM (k : K) (v : Value) (l h : Option Value) : Loc (sliceM k v l h) := by
  unfold IM.sliceM
  split
  · exact .grd (.opt fun _ => .pure _)
  · exact .bind (.cellsM _) fun c => .grd (.opt fun _ => .pure _)
  · exact .fail
theorem binM (T : Tab) (op : BinOp) (t : TypeId) (x y : Value) : Loc (binM T op t x y) := by
  unfold IM.binM
  split
  · exact .opt fun _ => .pure _
  · exact .opt fun _ => .opt fun _ => .pure _
theorem makeM (T : Tab) (k : K) (v u : Value) : Loc (makeM T k v u) := by
  unfold IM.makeM
  split
  · exact .opt fun _ => .grd (.newSlice _ _ _ _)
  · exact .fail
theorem lookM (T : Tab) (k : K) (v u : Value) (ok : Bool) : Loc (lookM T k v u ok) := by
  unfold IM.lookM
  split
  · exact .opt fun _ => .bind (.mapM _) fun _ => .opt fun _ => .pure _
  · exact .fail
theorem updM (v k u : Value) : Loc (updM v k u) := by
  unfold IM.updM
  split
  · exact .bind (.mapM _) fun _ => .opt fun _ => .bind (.wr _ _) fun _ => .pure _
  · exact .fail
theorem loopM (l : Nat) : Loc (loopM l) := .bind (.rd _) fun o => .opt fun _ => .pure _
theorem rangeM (v : Value) : Loc (rangeM v) := by
  unfold IM.rangeM
  split
  · exact .bind (.mapM _) fun _ => .bind (.new _) fun _ => .pure _
  · exact .fail
theorem nextM (v : Value) : Loc (nextM v) := by
  refine .opt fun r => .bind (.rd _) fun o => .opt fun s => .bind (.mapM _) fun es => .grd ?_
  split
  · exact .pure _
  · exact .bind (.amb _) fun _ => .bind (.wr _ _) fun _ => .pure _
theorem entryM (v : Value) : Loc (entryM v) := by
  refine .opt fun r => .bind (.rd _) fun o => .opt fun s => .bind (.mapM _) fun es => .grd ?_
  split
  · exact .fail
  · exact .opt fun _ => .pure _

section
variable {T : Tab} {call : Call} {yield : Yield} (hc : ∀ f args, Loc (call f args)) (hy : ∀ l args, Loc (yield l args))
include hc hy
theorem callV (v : Value) (args : List Value) : Loc (callV call yield v args) := by
  unfold IM.callV
  split
  · exact hc _ _
  · split
    · exact hy _ _
    · exact .fail
  · exact .fail
theorem opM (tm : Tr Value) (o : Op) : Loc (opM T call yield tm o) := by
  unfold IM.opM
  split
  · exact .opt fun _ => .pure _
  · exact .opt fun _ => .pure _
  · exact .opt fun _ => .opt fun _ => .opt fun _ => .opt fun _ => .pure _
  · exact .opt fun _ => .bind (.new _) fun _ => .pure _
  · exact .opt fun _ => .bind (.new _) fun _ => .pure _
  · refine .opt fun i => .opt fun _ => ?_
    split
    · exact .opt fun _ => .pure _
    · exact .opt fun _ => .pure _
    · exact .fail
  · refine .opt fun i => .opt fun _ => ?_
    split
    · exact .opt fun _ => .grd (.opt fun _ => .newSlice _ _ _ _)
    · exact .fail
  · exact .opt fun _ => .opt fun _ => .loadM _ _
  · exact .opt fun _ => .opt fun _ => .opt fun _ => .storeM _ _ _
  · exact .opt fun _ => .opt fun _ => .pure _
  · exact .opt fun _ => .opt fun _ => .binM _ _ _ _ _
  · exact .opt fun _ => .opt fun _ => .pure _
  · exact .opt fun _ => .opt fun _ => .opt fun _ => .opt fun _ => .pure _
  · exact .opt fun _ => .opt fun _ => .opt fun _ => .pure _
  · exact .opt fun _ => .grd (.opt fun _ => .grd (.bind (.new _) fun _ => .pure _))
  · exact .opt fun _ => .opt fun _ => .opt fun _ => .makeM _ _ _ _
  · exact .opt fun _ => .opt fun _ => .opt fun _ => .opt fun _ => .sliceM _ _ _ _
  · exact .opt fun _ => .opt fun _ => .opt fun _ => .pure _
  · exact .opt fun _ => .opt fun _ => .opt fun _ => .pure _
  · exact .opt fun _ => .opt fun _ => .opt fun _ => .opt fun _ => .pure _
  · exact .opt fun _ => .opt fun _ => .opt fun _ => .opt fun _ => .pure _
  · exact .opt fun _ => .opt fun _ => .opt fun _ => .lookM _ _ _ _ _
  · exact .opt fun _ => .grd (.opt fun _ => .opt fun _ => .opt fun _ => .updM _ _ _)
  · exact .opt fun _ => .opt fun _ => .pure _
  · exact .opt fun _ => .grd (.opt fun _ => .rangeM _)
  · exact .opt fun _ => .nextM _
  · exact .opt fun _ => .entryM _
  · refine .opt fun args => ?_
    split
    · exact .builtinM _ _ _ _
    · exact .opt fun _ => .callV hc hy _ _
    · exact .fail
  · exact .fail
theorem stepM (nt : Nat) (ops : List Oper) (tm : Tr Value) (o : Oper) : Loc (stepM T call yield nt ops tm o) :=
  .opt fun b => .ite (.bind (.opM hc hy _ _) fun _ => .opt fun _ => .pure _) (.opt fun _ => .pure _)
theorem opsM (nt : Nat) (ops : List Oper) : ∀ (l : List Oper) (tm : Tr Value), Loc (opsM T call yield nt ops l tm)
  | [], tm => .pure _
  | o :: l, tm => .bind (.stepM hc hy _ _ _ _) fun tm => opsM nt ops l tm

end

/-- One outcome and on. -/
theorem one {α β : Type} {m : M α} (hm : Loc m) {P : Nat → Nat → Bool} {f : Nat → Nat → α → M β} (hf : ∀ r w a, Loc (f r w a)) :
    Loc (fun h n => Res.one (fun a h1 n1 r w => bif P r w then f r w a h1 n1 else .fail) (m h n) : M β) := by
  constructor
  · intro h n
    have := hm.fr h n
    show (Res.one _ (m h n)).Fr h n
    cases e : m h n with
    | fail => trivial
    | alt _ _ => trivial
    | ok a h1 n1 r w =>
      rw [e] at this
      show (Res.add r w (bif P r w then f r w a h1 n1 else .fail)).Fr h n
      cases P r w with
      | false => trivial
      | true => exact Res.Fr.add this.1 this.2 ((hf r w a).fr h1 n1)
  · intro h g n hF ha
    have f1 := hm.fr h n
    have f2 := hm.fr g n
    have hs := hm.sim h g n
    change (Res.one _ (m h n)).Full at hF
    change ∀ k, (Res.one _ (m h n)).foot.testBit k = true → _ at ha
    show (Res.one _ (m h n)).Sim (Res.one _ (m g n))
    cases e : m h n with
    | fail => trivial
    | alt _ _ => trivial
    | ok a h1 n1 r w =>
      rw [e] at f1 hs hF ha
      change (Res.add r w (bif P r w then f r w a h1 n1 else .fail)).Full at hF
      change ∀ k, (Res.add r w (bif P r w then f r w a h1 n1 else .fail)).foot.testBit k = true → _ at ha
      have hF' := (Res.full_add r w).1 hF
      obtain ⟨g1, eg, hg⟩ := hs trivial fun k hk => ha k (Res.foot_add_mask _ _ _ _ hF' (by simpa only [Res.foot, tb_lor, Bool.or_eq_true] using hk))
      rw [eg] at f2 ⊢
      show (Res.add r w (bif P r w then f r w a h1 n1 else .fail)).Sim (Res.add r w (bif P r w then f r w a g1 n1 else .fail))
      cases hp : P r w with
      | false => rw [hp] at hF'; exact hF'.elim
      | true =>
        rw [hp] at hF' ha
        simp only [cond_true] at hF' ha ⊢
        refine Res.Sim.add hg ((hf r w a).fr h1 n1) ((hf r w a).fr g1 n1) ((hf r w a).sim h1 g1 n1 hF' fun i hi => ?_)
        by_cases c : w.testBit i = true
        · exact hg i c
        · have c' : w.testBit i = false := by simpa using c
          rw [f1.2 i c', f2.2 i c']
          exact ha i (Res.foot_add_of _ _ _ _ hi)

section
variable {T : Tab} {call : Call} {yield : Yield} (hc : ∀ f args, Loc (call f args)) (hy : ∀ l args, Loc (yield l args))
include hc hy
theorem drawM (nt : Nat) (ops : List Oper) : ∀ (l : List Oper) (fs : List Fp) (tm : Tr Value), Loc (drawM T call yield nt ops l fs tm)
  | [], fs, tm => .pure _
  | o :: l, fs, tm => by
    unfold IM.drawM
    exact .one (.stepM hc hy _ _ _ _) (P := fun r w => edgesM fs.length o.after.toList && checkM ⟨befM fs o.after.toList, looksM ops o, dstM o.dst, r, w⟩ 0 fs)
      (f := fun r w tm1 => IM.drawM T call yield nt ops l (fs ++ [⟨befM fs o.after.toList, looksM ops o, dstM o.dst, r, w⟩]) tm1) fun r w a => drawM nt ops l _ _
end

theorem resM (T : Tab) (tm : Tr Value) : ∀ (l : List ResultVar), Loc (resM T tm l)
  | [] => .pure _
  | .tmp t :: l => .opt fun _ => .bind (resM T tm l) fun _ => .pure _
  | .cell a t :: l => .opt fun _ => .opt fun _ => .bind (.loadM _ _) fun _ => .bind (resM T tm l) fun _ => .pure _

section
variable {T : Tab} {ex : Exec} (hT : ∀ f m args, T.ov f = some m → Loc (m args)) (he : ∀ nt c tm, Loc (ex nt c tm))
include hT he
omit hT in
theorem bodyM (fn : Func) (args : List Value) : Loc (bodyM T ex fn args) := by
  refine .grd (.opt fun b => .bind (he _ _ _) fun p => ?_)
  unfold IM.finM
  split
  · exact .fail
  · exact .bind (.resM _ _ _) fun _ => .pure _
theorem callG (g : FuncId) (args : List Value) : Loc (callG T ex g args) := by
  unfold IM.callG
  cases e : T.ov g with
  | some m => exact hT g m args e
  | none => exact .opt fun fn => .ite (.unite (.bodyM he fn args)) (.bodyM he fn args)
omit hT in
theorem yieldG (l : Nat) (args : List Value) : Loc (yieldG ex l args) :=
  .bind (.loopM _) fun s => .opt fun tm1 => .bind (he _ _ _) fun p => .grd (.bind (.loopM _) fun s2 => .grd (.bind (.wr _ _) fun _ => .bind (he _ _ _) fun q => .bind (.loopM _) fun s3 => .bind (.wr _ _) fun _ => .pure _))
theorem codeM (nt : Nat) (c : Code) (tm : Tr Value) : Loc (codeM T ex nt c tm) := by
  have hc := callG hT he
  have hy := yieldG (ex := ex) he
  have hth : ∀ (k : Tr Value → M (Ex × Tr Value)), (∀ tm, Loc (k tm)) → ∀ p, Loc (thenM k p) := fun k hk p => by
    unfold thenM
    split
    · exact hk _
    · exact .pure _
  unfold IM.codeM
  split
  · exact .pure _
  · exact .bind (.opsM hc hy _ _ _ _) fun _ => .pure _
  · exact .bind (.drawM hc hy _ _ _ _ _) fun _ => .pure _
  · exact .bind (he _ _ _) (hth _ (he _ _))
  · exact .opt fun _ => .opt fun _ => he _ _ _
  · refine .bind (he _ _ _) fun p => ?_
    unfold inBlock
    split <;> exact .pure _
  · exact .bind (he _ _ _) (hth _ (he _ _))
  · refine .opt fun v => ?_
    unfold rangeV
    split
    · exact .grd (.bind (.new _) fun l => .bind (hc _ _) fun _ => .bind (.loopM _) fun s => .grd (.bind (.kill _) fun _ => .pure _))
    · exact .fail
  · exact .pure _
  · exact .pure _
  · exact .fail
  · exact .pure _
  · exact .fail
end

theorem exec {T : Tab} (hT : ∀ f m args, T.ov f = some m → Loc (m args)) : ∀ (f nt : Nat) (c : Code) (tm : Tr Value), Loc (exec T f nt c tm)
  | 0, _, _, _ => .fail
  | f + 1, nt, c, tm => codeM hT (exec hT f) nt c tm
end Loc
end Go.IM
