/- A second, leaner machine over abstract memory: blocks have names of its own, capacities are left out, orders are the text's. Its runs are shown to be those of the model. Here: the machine. -/
import GoSem.Dispatch
import GoSem.Machine.Frame
set_option linter.unusedVariables false
namespace Go.IM

/-- Trees by the digits of a number. -/
inductive Tr (α : Type) where
  | nil
  | node (l : Tr α) (v : Option α) (r : Tr α)

--BEGIN FAST
noncomputable def Tr.get {α : Type} (t : Tr α) : Nat → Option α :=
  Tr.rec (motive := fun _ => Nat → Option α) (fun _ => none)
    (fun _ v _ ihl ihr n => Bool.rec (motive := fun _ => Option α) (Bool.rec (motive := fun _ => Option α) (ihr (Nat.sub (Nat.div n 2) 1)) (ihl (Nat.div n 2)) (Nat.beq (Nat.mod n 2) 1)) v (Nat.beq n 0)) t

/-- One place alone (fuel: more than the digits). -/
noncomputable def Tr.one {α : Type} (f : Nat) : Nat → Option α → Tr α :=
  Nat.rec (motive := fun _ => Nat → Option α → Tr α) (fun _ _ => .nil)
    (fun _ ih n x => Bool.rec (motive := fun _ => Tr α) (Bool.rec (motive := fun _ => Tr α) (.node .nil none (ih (Nat.sub (Nat.div n 2) 1) x)) (.node (ih (Nat.div n 2) x) none .nil) (Nat.beq (Nat.mod n 2) 1)) (.node .nil x .nil) (Nat.beq n 0)) f
/-- Put at a place. -/
noncomputable def Tr.set {α : Type} (f : Nat) (t : Tr α) : Nat → Option α → Tr α :=
  Tr.rec (motive := fun _ => Nat → Option α → Tr α) (Tr.one f)
    (fun l v r ihl ihr n x => Bool.rec (motive := fun _ => Tr α) (Bool.rec (motive := fun _ => Tr α) (.node l v (ihr (Nat.sub (Nat.div n 2) 1) x)) (.node (ihl (Nat.div n 2) x) v r) (Nat.beq (Nat.mod n 2) 1)) (.node l x r) (Nat.beq n 0)) t
--END FAST

/-- How code is left. -/
inductive Ex where
  | normal
  | exit (id : Nat)
  | ret

/-- What lies in a block. -/
inductive AObj where
  | cells (cs : List Value) (t : TypeId)
  | map (es : List (Value × Value))
  /-- A walk over a map: how many entries it had, the places that have come, the last one first. -/
  | iter (m c : Nat) (seen : List Nat)
  /-- A loop over a function: what it goes on with. -/
  | loop (nt : Nat) (tm : Tr Value) (ps : List Tmp) (assign body : Code) (pend : Ex) (busy : Bool)

/-- What comes of a run: nothing; or a value, the memory, the next name, and the names that were read and written (a number's digits); or one of two. -/
inductive Res (α : Type) where
  | fail
  | ok (a : α) (h : Tr AObj) (n : Nat) (r w : Nat)
  | alt (x y : Res α)

--BEGIN FAST
noncomputable def Res.add {α : Type} (r w : Nat) (x : Res α) : Res α :=
  Res.rec (motive := fun _ => Res α) .fail (fun a h n r1 w1 => .ok a h n (Nat.lor r r1) (Nat.lor w w1)) (fun _ _ i j => .alt i j) x

noncomputable def Res.bind {α β : Type} (k : α → Tr AObj → Nat → Res β) (x : Res α) : Res β :=
  Res.rec (motive := fun _ => Res β) .fail (fun a h n r w => Res.add r w (k a h n)) (fun _ _ i j => .alt i j) x
--END FAST

def M (α : Type) : Type := Tr AObj → Nat → Res α
namespace M
def pure {α : Type} (a : α) : M α := fun h n => .ok a h n 0 0
def fail {α : Type} : M α := fun _ _ => .fail
noncomputable def bind {α β : Type} (m : M α) (f : α → M β) : M β := fun h n => Res.bind f (m h n)
/-- On with what is there. -/
def opt {α β : Type} (o : Option α) (k : α → M β) : M β := fun h n => Option.casesOn o .fail fun a => k a h n
/-- On if so. -/
def grd {β : Type} (b : Bool) (k : Unit → M β) : M β := fun h n => Bool.casesOn b .fail (k () h n)
/-- One of these. -/
def amb {α : Type} : List α → M α
  | [] => fail
  | [a] => pure a
  | a :: as => fun h n => .alt (.ok a h n 0 0) (amb as h n)
/-- Read a block. -/
noncomputable def rd (i : Nat) : M AObj := fun h n => match h.get i with
  | none => .fail
  | some o => .ok o h n (Nat.shiftLeft 1 i) 0
/-- Write a block that is there. -/
noncomputable def wr (i : Nat) (o : AObj) : M Unit := fun h n => match h.get i with
  | none => .fail
  | some _ => bif Nat.blt i 65536 then .ok () (h.set 20 i (some o)) n 0 (Nat.shiftLeft 1 i) else .fail
/-- Forget a block that is there. -/
noncomputable def kill (i : Nat) : M Unit := fun h n => match h.get i with
  | none => .fail
  | some _ => bif Nat.blt i 65536 then .ok () (h.set 20 i none) n 0 (Nat.shiftLeft 1 i) else .fail
/-- A new block. -/
noncomputable def new (o : AObj) : M Nat := fun h n => match h.get n with
  | some _ => .fail
  | none => bif Nat.blt n 65536 then .ok n (h.set 20 n (some o)) (Nat.succ n) 0 (Nat.shiftLeft 1 n) else .fail
end M
open M

/-- What is known of a type. -/
inductive K where
  | bool | int (k : IntKind) | ptr (e : TypeId) | slice (e : TypeId) (sz bytes : Nat) | array (n : Nat) (e : TypeId) (sz : Nat) (agg : Bool) | map (k e : TypeId) | struct (fs : List (Nat × Nat × Bool)) | func | string | other
structure TI where
  k : K
  agg : Bool
  size : Nat
  zero : List Value

/-- What is known of a program: its types, its functions, what is taken by a contract, and where outcomes are made one. -/
structure Tab where
  ty : TypeId → Option TI
  fn : FuncId → Option Func
  ov : FuncId → Option (List Value → M Value)
  un : FuncId → Bool

/-- A value that lies in one cell. -/
def one1 : Value → Bool
  | .agg _ => false
  | .tuple _ => false
  | _ => true
def ones (l : List Value) : Bool := l.all one1

def cellsOf : Value → List Value
  | .agg cs => cs.toList
  | v => [v]

def ptrTo (i : Nat) : Value := .pointer (some ⟨i, 0, none⟩)

/-- A value without an address. -/
def gnd1 : Value → Bool
  | .bool _ => true
  | .int _ _ => true
  | .string _ => true
  | .pointer none => true
  | .slice none n c => Nat.beq n 0 && Nat.beq c 0
  | .map none => true
  | .nilFunc => true
  | .nilIface => true
  | _ => false
def gnd : Value → Bool
  | .agg cs => cs.toList.all gnd1
  | .tuple cs => cs.toList.all gnd1
  | v => gnd1 v

/-- The operand's value. -/
noncomputable def ev (tm : Tr Value) : Operand → Option Value
  | .tmp t => tm.get t
  | .const v => bif gnd v then some v else none
  | .func f => some (.func (.func f) #[] #[])
  | .global _ => none

noncomputable def evs (tm : Tr Value) : List Operand → Option (List Value)
  | [] => some []
  | x :: xs => match ev tm x with
    | none => none
    | some v => match evs tm xs with
      | none => none
      | some vs => some (v :: vs)

noncomputable def evo (tm : Tr Value) : Option Operand → Option (Option Value)
  | none => some none
  | some x => match ev tm x with
    | none => none
    | some v => some (some v)

noncomputable def evp (tm : Tr Value) : List (Nat × Operand) → Option (List (Nat × Value))
  | [] => some []
  | (i, x) :: xs => match ev tm x with
    | none => none
    | some v => match evp tm xs with
      | none => none
      | some vs => some ((i, v) :: vs)

/-- Put cells over cells from a place on. -/
def over : List Value → Nat → List Value → List Value
  | [], _, _ => []
  | c :: cs, 0, v :: vs => v :: over cs 0 vs
  | cs, 0, [] => cs
  | c :: cs, k + 1, vs => c :: over cs k vs

def part (agg : Bool) (cs : List Value) (off sz : Nat) : Option Value :=
  bif agg then (bif Nat.ble (off + sz) cs.length then some (.agg ⟨(cs.drop off).take sz⟩) else none)
  else (cs.drop off).head?

/-- The cells of a block. -/
noncomputable def cellsM (b : Nat) : M (List Value × TypeId) := M.bind (rd b) fun o => match o with
  | .cells cs t => M.pure (cs, t)
  | _ => M.fail
noncomputable def mapM (b : Nat) : M (List (Value × Value)) := M.bind (rd b) fun o => match o with
  | .map es => M.pure es
  | _ => M.fail

noncomputable def loadM (i : TI) (a : Value) : M Value :=
  match a with
  | .pointer (some ⟨b, off, none⟩) => M.bind (cellsM b) fun c => M.opt (part i.agg c.1 off i.size) M.pure
  | _ => M.fail

noncomputable def storeM (i : TI) (a v : Value) : M Value :=
  match a with
  | .pointer (some ⟨b, off, none⟩) => M.bind (cellsM b) fun c => M.grd (Nat.beq (cellsOf v).length i.size && Nat.ble (off + i.size) c.1.length && ones (cellsOf v)) fun _ => M.bind (wr b (.cells (over c.1 off (cellsOf v)) c.2)) fun _ => M.pure undef
  | _ => M.fail

/-- Parts put into cells. -/
def fillL (place : Nat → Option (Nat × Nat)) (cells : List Value) : List (Nat × Value) → Option (List Value)
  | [] => some cells
  | (i, v) :: rest => match place i with
    | none => none
    | some (off, size) => bif Nat.beq (cellsOf v).length size && Nat.ble (off + size) cells.length then fillL place (over cells off (cellsOf v)) rest else none

def placeS (fs : List (Nat × Nat × Bool)) (j : Nat) : Option (Nat × Nat) :=
  match fs.drop j with
  | [] => none
  | f :: _ => some (f.1, f.2.1)

def reps (z : List Value) : Nat → List Value
  | 0 => []
  | n + 1 => z ++ reps z n

def binInt (op : BinOp) (k : IntKind) (a b : Int) : Option Value :=
  match op with
  | .add => some (.int k (k.wrap (a + b)))
  | .sub => some (.int k (k.wrap (a - b)))
  | .mul => some (.int k (k.wrap (a * b)))
  | .quo => bif decide (b = 0) then none else some (.int k (k.wrap (a.tdiv b)))
  | .rem => bif decide (b = 0) then none else some (.int k (a.tmod b))
  | .eql => some (.bool (a == b))
  | .neq => some (.bool (a != b))
  | .lss => some (.bool (decide (a < b)))
  | .leq => some (.bool (decide (a ≤ b)))
  | .gtr => some (.bool (decide (a > b)))
  | .geq => some (.bool (decide (a ≥ b)))
  | _ => none

/-- Are both the same, where one of them is nil, or both are bools. -/
def eqV (k : K) (x y : Value) : Option Bool :=
  match k, x, y with
  | .bool, .bool a, .bool b => some (a == b)
  | .ptr _, .pointer none, .pointer b => some b.isNone
  | .ptr _, .pointer (some _), .pointer none => some false
  | .slice _ _ _, .slice none _ _, .slice b _ _ => some b.isNone
  | .slice _ _ _, .slice (some _) _ _, .slice none _ _ => some false
  | .map _ _, .map none, .map b => some b.isNone
  | .map _ _, .map (some _), .map none => some false
  | .func, .nilFunc, .nilFunc => some true
  | .func, .nilFunc, .func _ _ _ => some false
  | .func, .func _ _ _, .nilFunc => some false
  | _, _, _ => none

def shrV (k : IntKind) (a b : Int) : Option Value := bif decide (b < 0) then none else some (.int k (a.fdiv (2 ^ (min b.toNat k.bits))))

/-- == or != (no: nothing else). -/
def eqOp (op : BinOp) (k : K) (x y : Value) : Option Value := match eqV k x y with
  | none => none
  | some b => match op with
    | .eql => some (.bool b)
    | .neq => some (.bool (!b))
    | _ => none

def binV (op : BinOp) (k : IntKind) (a : Int) (k' : IntKind) (b : Int) : Option Value :=
  match op with
    | .shl => none
    | .shr => shrV k a b
    | op => bif decide (k = k') then binInt op k a b else none

noncomputable def binM (T : Tab) (op : BinOp) (t : TypeId) (x y : Value) : M Value :=
  match x, y with
  | .int k a, .int k' b => M.opt (binV op k a k' b) M.pure
  | x, y => M.opt (T.ty t) fun i => M.opt (eqOp op i.k x y) M.pure

def unV (op : UnOp) (x : Value) : Option Value :=
  match op, x with
  | .not, .bool b => some (.bool (!b))
  | .neg, .int k n => some (.int k (k.wrap (0 - n)))
  | _, _ => none

def sameKey : Value → Value → Option Bool
  | .int k a, .int k' b => bif decide (k = k') then some (a == b) else none
  | _, _ => none

def findL (k : Value) : List (Value × Value) → Option (Option Value)
  | [] => some none
  | (x, v) :: es => match sameKey k x with
    | none => none
    | some true => some (some v)
    | some false => findL k es

def putL (k v : Value) : List (Value × Value) → Option (List (Value × Value))
  | [] => some [(k, v)]
  | (x, u) :: es => match sameKey k x with
    | none => none
    | some true => some ((k, v) :: es)
    | some false => (putL k v es).map ((x, u) :: ·)

/-- An element's address. -/
def idxAddr (sz : Nat) (base : Value) (i : Value) (len : Nat) : Option Value :=
  match base, i with
  | .pointer (some ⟨b, off, none⟩), .int _ i => bif decide (0 ≤ i) && decide (i < len) then some (.pointer (some ⟨b, off + i.toNat * sz, none⟩)) else none
  | _, _ => none

def optInt : Option Value → Nat → Option Nat
  | none, d => some d
  | some (.int _ i), _ => bif decide (0 ≤ i) then some i.toNat else none
  | _, _ => none

/-- The cells of a slice's elements. -/
noncomputable def sliceCells (sz : Nat) : Value → M (List Value)
  | .slice none _ _ => M.pure []
  | .slice (some ⟨b, off, none⟩) len _ => M.bind (cellsM b) fun c => M.grd (Nat.ble (off + len * sz) c.1.length) fun _ => M.pure ((c.1.drop off).take (len * sz))
  | _ => M.fail

noncomputable def newSlice (e : TypeId) (sz n : Nat) (cs : List Value) : M Value := M.bind (M.new (.cells cs e)) fun i => M.pure (.slice (some ⟨i, 0, none⟩) n sz)

/-- A slice's mark of its elements' size. -/
def szOk (a : Option Addr) (c sz : Nat) : Bool := match a with
  | none => true
  | some _ => Nat.beq c sz

/-- append: the row that is appended to is forgotten; what comes of it is a new one. -/
noncomputable def appendM (e : TypeId) (sz bytes : Nat) (s x : Value) : M Value :=
  match s, x with
  | .slice a n k, .slice b m c =>
    M.grd (Nat.ble (n + m) 60000 && Nat.ble bytes 1000 && szOk a k sz) fun _ =>
    M.bind (sliceCells sz x) fun new => M.grd (ones new) fun _ =>
    bif Nat.beq m 0 then M.pure s
    else match a with
    | none => newSlice e sz m new
    | some ⟨j, 0, none⟩ => M.bind (sliceCells sz s) fun old => M.bind (kill j) fun _ => newSlice e sz (n + m) (old ++ new)
    | _ => M.fail
  | _, _ => M.fail

noncomputable def clearM (zero : List Value) (sz : Nat) (x : Value) : M Value :=
  match x with
  | .slice none _ _ => M.pure undef
  | .slice (some ⟨b, off, none⟩) len _ => bif Nat.beq len 0 then M.pure undef else M.bind (cellsM b) fun c => M.grd (Nat.ble (off + len * sz) c.1.length && Nat.beq zero.length sz && ones zero) fun _ => M.bind (wr b (.cells (over c.1 off (reps zero len)) c.2)) fun _ => M.pure undef
  | _ => M.fail

noncomputable def lenM (k : K) (x : Value) : M Value :=
  match k, x with
  | .slice _ _ _, .slice _ n _ => M.pure (.int .i64 n)
  | .map _ _, .map none => M.pure (.int .i64 0)
  | .map _ _, .map (some b) => M.bind (mapM b) fun es => M.pure (.int .i64 es.length)
  | _, _ => M.fail

def minV (x y : Value) : Option Value :=
  match x, y with
  | .int k x, .int _ y => some (.int k (bif decide (y < x) then y else x))
  | _, _ => none
def maxV (x y : Value) : Option Value :=
  match x, y with
  | .int k x, .int _ y => some (.int k (bif decide (y > x) then y else x))
  | _, _ => none

def foldV (f : Value → Value → Option Value) : Value → List Value → Option Value
  | x, [] => some x
  | x, y :: ys => match f x y with
    | none => none
    | some z => foldV f z ys

noncomputable def appB (T : Tab) (t t2 : TypeId) (s x : Value) : M Value :=
  M.grd (Nat.beq t t2) fun _ => M.opt (T.ty t) fun i => match i.k with
    | .slice e sz by_ => appendM e sz by_ s x
    | _ => M.fail
noncomputable def clearB (T : Tab) (t : TypeId) (x : Value) : M Value :=
  M.opt (T.ty t) fun i => match i.k with
    | .slice e sz _ => M.opt (T.ty e) fun ie => clearM ie.zero sz x
    | _ => M.fail

noncomputable def builtinM (T : Tab) (b : Builtin) (ats : List TypeId) (args : List Value) : M Value :=
  match args with
  | [] => M.fail
  | x :: ys => match b with
    | .len => match ys, ats with
      | [], [t] => M.opt (T.ty t) fun i => lenM i.k x
      | _, _ => M.fail
    | .clear => match ys, ats with
      | [], [t] => clearB T t x
      | _, _ => M.fail
    | .min => M.opt (foldV minV x ys) M.pure
    | .max => M.opt (foldV maxV x ys) M.pure
    | .append => match ys, ats with
      | [y], [t, t2] => appB T t t2 x y
      | _, _ => M.fail
    | _ => M.fail

def pickV (c a b : Value) : Option Value := match c with
  | .bool t => some (bif t then a else b)
  | _ => none
noncomputable def opPick (tm : Tr Value) (c a b : Operand) : M Value := M.opt (ev tm c) fun v => M.opt (ev tm a) fun x => M.opt (ev tm b) fun y => M.opt (pickV v x y) M.pure
noncomputable def opAlloc (T : Tab) (t : TypeId) : M Value := M.opt (T.ty t) fun i => M.bind (M.new (.cells i.zero t)) fun b => M.pure (ptrTo b)
noncomputable def opBox (tm : Tr Value) (t : TypeId) (x : Operand) : M Value := M.opt (ev tm x) fun v => M.bind (M.new (.cells (cellsOf v) t)) fun b => M.pure (ptrTo b)
def placeA (sz j : Nat) : Option (Nat × Nat) := some (j * sz, sz)
noncomputable def opBuild (T : Tab) (tm : Tr Value) (t : TypeId) (ps : List (Nat × Operand)) : M Value := M.opt (T.ty t) fun i => M.opt (evp tm ps) fun vs => match i.k with
  | .struct fs => M.opt (fillL (placeS fs) i.zero vs) fun cs => M.pure (.agg ⟨cs⟩)
  | .array _ _ sz _ => M.opt (fillL (placeA sz) i.zero vs) fun cs => M.pure (.agg ⟨cs⟩)
  | _ => M.fail
noncomputable def opBuildSlice (T : Tab) (tm : Tr Value) (t : TypeId) (len : Nat) (ps : List (Nat × Operand)) : M Value := M.opt (T.ty t) fun i => M.opt (evp tm ps) fun vs => match i.k with
  | .slice e sz _ => M.opt (T.ty e) fun ie => M.grd (Nat.ble (len * sz) 60000) fun _ => M.opt (fillL (placeA sz) (reps ie.zero len) vs) fun cs => newSlice e sz len cs
  | _ => M.fail
noncomputable def opLoad (T : Tab) (tm : Tr Value) (t : TypeId) (a : Operand) : M Value := M.opt (T.ty t) fun i => M.opt (ev tm a) fun v => loadM i v
noncomputable def opStore (T : Tab) (tm : Tr Value) (t : TypeId) (a x : Operand) : M Value := M.opt (T.ty t) fun i => M.opt (ev tm a) fun v => M.opt (ev tm x) fun u => storeM i v u
def nilV (v : Value) : Option Value := match v with
  | .pointer (some _) => some v
  | .func (.func _) _ _ => some v
  | .func (.yield _) _ _ => some v
  | _ => none
def convV (k : K) (v : Value) : Option Value := match k, v with
  | .int k, .int _ n => some (.int k (k.wrap n))
  | _, _ => none
def funcV (fn : Fn) (a c : List Value) : Option Value := match fn with
  | .func _ => some (.func fn ⟨a⟩ ⟨c⟩)
  | _ => none
noncomputable def opFunc (tm : Tr Value) (fn : Fn) (first cap : List Operand) : M Value := M.opt (evs tm first) fun a => M.opt (evs tm cap) fun c => M.opt (funcV fn a c) M.pure
def hintOk : Option Value → Bool
  | none => true
  | some (.int _ _) => true
  | _ => false
noncomputable def opMap (tm : Tr Value) (r : Option Operand) : M Value := M.opt (evo tm r) fun v => M.grd (hintOk v) fun _ => M.bind (M.new (.map [])) fun b => M.pure (.map (some b))
noncomputable def makeM (T : Tab) (k : K) (v u : Value) : M Value := match k, v, u with
  | .slice e sz by_, .int _ n, .int _ m => M.opt (T.ty e) fun ie => M.grd (decide (0 ≤ n) && decide (n ≤ m) && decide (m < 60000) && Nat.ble by_ 1000) fun _ => newSlice e sz n.toNat (reps ie.zero n.toNat)
  | _, _, _ => M.fail
noncomputable def opMake (T : Tab) (tm : Tr Value) (t : TypeId) (l c : Operand) : M Value := M.opt (T.ty t) fun i => M.opt (ev tm l) fun v => M.opt (ev tm c) fun u => makeM T i.k v u
def cutV (sz : Nat) (a : Option Addr) (l h n : Nat) : Option Value :=
  bif Nat.ble l h && Nat.ble h n then (match a with
    | none => some (.slice none 0 0)
    | some ⟨b, off, none⟩ => some (.slice (some ⟨b, off + l * sz, none⟩) (h - l) sz)
    | _ => none) else none
def cutO (sz : Nat) (a : Option Addr) (l h : Option Value) (n : Nat) : Option Value := match optInt l 0, optInt h n with
  | some l, some h => cutV sz a l h n
  | _, _ => none
noncomputable def sliceM (k : K) (v : Value) (l h : Option Value) : M Value := match k, v with
  | .slice _ sz _, .slice a n c => M.grd (szOk a c sz) fun _ => M.opt (cutO sz a l h n) M.pure
  | .array n _ sz _, .pointer (some ⟨b, off, none⟩) => M.bind (cellsM b) fun c => M.grd (Nat.ble (off + n * sz) c.1.length) fun _ => M.opt (cutO sz (some ⟨b, off, none⟩) l h n) M.pure
  | _, _ => M.fail
noncomputable def opSlice (T : Tab) (tm : Tr Value) (t : TypeId) (x : Operand) (lo hi : Option Operand) : M Value := M.opt (T.ty t) fun i => M.opt (ev tm x) fun v => M.opt (evo tm lo) fun l => M.opt (evo tm hi) fun h => sliceM i.k v l h
def fieldAddrV (k : K) (v : Value) (f : Nat) : Option Value := match k, v with
  | .struct fs, .pointer (some ⟨b, off, none⟩) => match placeS fs f with
    | none => none
    | some p => bif Nat.beq p.2 0 then none else some (.pointer (some ⟨b, off + p.1, none⟩))
  | _, _ => none
def fieldV (k : K) (v : Value) (f : Nat) : Option Value := match k, v with
  | .struct fs, .agg cs => match fs.drop f with
    | [] => none
    | p :: _ => part p.2.2 cs.toList p.1 p.2.1
  | _, _ => none
def indexAddrV (k : K) (v u : Value) : Option Value := match k with
  | .slice _ sz _ => match v with
    | .slice (some a) n _ => idxAddr sz (.pointer (some a)) u n
    | _ => none
  | .array n _ sz _ => idxAddr sz v u n
  | _ => none
def indexV (k : K) (v u : Value) : Option Value := match k, v, u with
  | .array n _ sz agg, .agg cs, .int _ j => bif decide (0 ≤ j) && decide (j < n) then part agg cs.toList (j.toNat * sz) sz else none
  | .string, .string s, .int _ j => bif decide (0 ≤ j) then (match s.data.toList.drop j.toNat with
    | [] => none
    | b :: _ => some (.int .u8 b.toNat)) else none
  | _, _, _ => none
def zeroOf (ie : TI) : Value := bif ie.agg then .agg ⟨ie.zero⟩ else ie.zero.headD undef
def foundV (ok : Bool) (z : Value) (r : Option Value) : Value := match r with
  | some v => bif ok then .tuple #[v, .bool true] else v
  | none => bif ok then .tuple #[z, .bool false] else z
noncomputable def lookM (T : Tab) (k : K) (v u : Value) (ok : Bool) : M Value := match k, v with
  | .map _ e, .map (some b) => M.opt (T.ty e) fun ie => M.bind (mapM b) fun es => M.opt (findL u es) fun r => M.pure (foundV ok (zeroOf ie) r)
  | _, _ => M.fail
def isMapK : K → Bool
  | .map _ _ => true
  | _ => false
noncomputable def updM (v k u : Value) : M Value := match v with
  | .map (some b) => M.bind (mapM b) fun es => M.opt (putL k u es) fun es' => M.bind (wr b (.map es')) fun _ => M.pure undef
  | _ => M.fail
def tupAt (v : Value) (ix : Nat) : Option Value := match v with
  | .tuple vs => (vs.toList.drop ix).head?
  | _ => none
/-- A walk over a map begins. -/
noncomputable def rangeM (v : Value) : M Value := match v with
  | .map (some m) => M.bind (mapM m) fun es => M.bind (M.new (.iter m es.length [])) fun b => M.pure (ptrTo b)
  | _ => M.fail
def unseen (seen : List Nat) : Nat → List (Value × Value) → List (Nat × Value × Value)
  | _, [] => []
  | i, e :: es => bif seen.any (Nat.beq i) then unseen seen (Nat.succ i) es else (i, e) :: unseen seen (Nat.succ i) es
structure IterR where
  m : Nat
  c : Nat
  seen : List Nat
def iterV : AObj → Option IterR
  | .iter m c seen => some ⟨m, c, seen⟩
  | _ => none
def addr0 : Value → Option Nat
  | .pointer (some ⟨r, 0, none⟩) => some r
  | _ => none
/-- Its next entry: whichever. -/
noncomputable def nextM (v : Value) : M Value := M.opt (addr0 v) fun r => M.bind (rd r) fun o => M.opt (iterV o) fun s => M.bind (mapM s.m) fun es => M.grd (Nat.beq es.length s.c) fun _ => match unseen s.seen 0 es with
  | [] => M.pure (.tuple #[.bool false])
  | l => M.bind (amb l) fun e => M.bind (wr r (.iter s.m s.c (e.1 :: s.seen))) fun _ => M.pure (.tuple #[.bool true, e.2.1, e.2.2])
noncomputable def entryM (v : Value) : M Value := M.opt (addr0 v) fun r => M.bind (rd r) fun o => M.opt (iterV o) fun s => M.bind (mapM s.m) fun es => M.grd (Nat.beq es.length s.c) fun _ => match s.seen with
  | [] => M.fail
  | i :: _ => M.opt (es.drop i).head? fun e => M.pure (.tuple #[e.1, e.2])

abbrev Call := FuncId → List Value → M Value
abbrev Yield := Nat → List Value → M Value

noncomputable def callV (call : Call) (yield : Yield) (v : Value) (args : List Value) : M Value := match v with
  | .func (.func g) first cap => call g (first.toList ++ args ++ cap.toList)
  | .func (.yield l) first cap => match first.toList, cap.toList with
    | [], [] => yield l args
    | _, _ => M.fail
  | _ => M.fail

noncomputable def opCall (T : Tab) (call : Call) (yield : Yield) (tm : Tr Value) (c : Go.Call) : M Value := M.opt (evs tm c.args.toList) fun args => match c.callee with
  | .builtin b => builtinM T b c.argTypes.toList args
  | .value f => M.opt (ev tm f) fun v => callV call yield v args
  | _ => M.fail

/-- One operation. -/
noncomputable def opM (T : Tab) (call : Call) (yield : Yield) (tm : Tr Value) (o : Op) : M Value :=
  match o with
  | .move x => M.opt (ev tm x) M.pure
  | .assign x => M.opt (ev tm x) M.pure
  | .pick c a b => opPick tm c a b
  | .alloc t => opAlloc T t
  | .box t x => opBox tm t x
  | .build t ps => opBuild T tm t ps.toList
  | .buildSlice t len ps => opBuildSlice T tm t len ps.toList
  | .load t a => opLoad T tm t a
  | .store t a x => opStore T tm t a x
  | .nilCheck x => M.opt (ev tm x) fun v => M.opt (nilV v) M.pure
  | .binOp op t x y _ => M.opt (ev tm x) fun v => M.opt (ev tm y) fun u => binM T op t v u
  | .unOp op _ x => M.opt (ev tm x) fun v => M.opt (unV op v) M.pure
  | .convert src dst x => M.opt (T.ty src) fun _ => M.opt (T.ty dst) fun i => M.opt (ev tm x) fun v => M.opt (convV i.k v) M.pure
  | .makeFunc fn first cap => opFunc tm fn first.toList cap.toList
  | .makeMap t r => M.opt (T.ty t) fun i => M.grd (isMapK i.k) fun _ => opMap tm r
  | .makeSlice t l c => opMake T tm t l c
  | .slice t x lo hi none => opSlice T tm t x lo hi
  | .fieldAddr t x f => M.opt (T.ty t) fun i => M.opt (ev tm x) fun v => M.opt (fieldAddrV i.k v f) M.pure
  | .field t x f => M.opt (T.ty t) fun i => M.opt (ev tm x) fun v => M.opt (fieldV i.k v f) M.pure
  | .indexAddr t x ix => M.opt (T.ty t) fun i => M.opt (ev tm x) fun v => M.opt (ev tm ix) fun u => M.opt (indexAddrV i.k v u) M.pure
  | .index t x ix => M.opt (T.ty t) fun i => M.opt (ev tm x) fun v => M.opt (ev tm ix) fun u => M.opt (indexV i.k v u) M.pure
  | .lookup t x ix ok => M.opt (T.ty t) fun i => M.opt (ev tm x) fun v => M.opt (ev tm ix) fun u => lookM T i.k v u ok
  | .mapUpdate t m k x => M.opt (T.ty t) fun i => M.grd (isMapK i.k) fun _ => M.opt (ev tm m) fun v => M.opt (ev tm k) fun k => M.opt (ev tm x) fun u => updM v k u
  | .extract t ix => M.opt (ev tm t) fun v => M.opt (tupAt v ix) M.pure
  | .range t x => M.opt (T.ty t) fun i => M.grd (isMapK i.k) fun _ => M.opt (ev tm x) rangeM
  | .next it false => M.opt (ev tm it) nextM
  | .entry it => M.opt (ev tm it) entryM
  | .call c => opCall T call yield tm c
  | _ => M.fail

noncomputable def putT (nt : Nat) (tm : Tr Value) (d : Option Tmp) (v : Value) : Option (Tr Value) :=
  match d with
  | none => some tm
  | some d => bif Nat.blt d nt && Nat.blt d 65536 then some (tm.set 20 d (some v)) else none

def isB (want : Bool) : Option Value → Option Bool
  | some (.bool b) => some (b == want)
  | some _ => some false
  | none => none

def dstAt (ops : List Oper) (j : Nat) : Option Tmp :=
  match ops.drop j with
  | [] => none
  | p :: _ => p.dst

/-- Is the operation carried out? -/
noncomputable def wanted (ops : List Oper) (tm : Tr Value) (g : Option (Nat × Bool)) : Option Bool :=
  match g with
  | none => some true
  | some (j, want) => match dstAt ops j with
      | none => none
      | some d => isB want (tm.get d)

noncomputable def stepM (T : Tab) (call : Call) (yield : Yield) (nt : Nat) (ops : List Oper) (tm : Tr Value) (o : Oper) : M (Tr Value) :=
  M.opt (wanted ops tm o.guard) fun b => bif b then M.bind (opM T call yield tm o.op) fun v => M.opt (putT nt tm o.dst v) M.pure else M.opt (putT nt tm o.dst undef) M.pure

noncomputable def opsM (T : Tab) (call : Call) (yield : Yield) (nt : Nat) (ops : List Oper) : List Oper → Tr Value → M (Tr Value)
  | [], tm => M.pure tm
  | o :: rest, tm => M.bind (stepM T call yield nt ops tm o) fun tm => opsM T call yield nt ops rest tm

/-! A region that draws its order: each two operations that no edge orders must not meet. -/
def mskOf : List Operand → Nat
  | [] => 0
  | .tmp t :: r => Nat.lor (Nat.shiftLeft 1 t) (mskOf r)
  | _ :: r => mskOf r

def dstM : Option Tmp → Nat
  | none => 0
  | some d => Nat.shiftLeft 1 d

def looksM (ops : List Oper) (o : Oper) : Nat :=
  Nat.lor (mskOf o.op.operands.toList) (match o.guard with
    | none => 0
    | some (j, _) => dstM (dstAt ops j))

/-- What an operation did: which operations are ahead of it, and what it read and wrote (temporaries, blocks). -/
structure Fp where
  bef : Nat
  tr : Nat
  tw : Nat
  r : Nat
  w : Nat

def befAt (fs : List Fp) (i : Nat) : Nat := match fs.drop i with
  | [] => 0
  | f :: _ => f.bef

def befM (fs : List Fp) : List Edge → Nat
  | [] => 0
  | e :: es => bif Region.binds .any e then Nat.lor (Nat.lor (Nat.shiftLeft 1 e.on) (befAt fs e.on)) (befM fs es) else befM fs es

def apartM (a b : Fp) : Bool :=
  Nat.beq (Nat.lor (Nat.lor (Nat.land a.tw (Nat.lor b.tr b.tw)) (Nat.land a.tr b.tw)) (Nat.lor (Nat.land a.w (Nat.lor b.r b.w)) (Nat.land a.r b.w))) 0

def checkM (f : Fp) : Nat → List Fp → Bool
  | _, [] => true
  | i, g :: gs => (bif Nat.beq (Nat.mod (Nat.shiftRight f.bef i) 2) 1 then true else apartM g f) && checkM f (Nat.succ i) gs

/-- What is awaited lies ahead in the text. -/
def edgesM (i : Nat) : List Edge → Bool
  | [] => true
  | e :: es => (bif Region.binds .any e then Nat.blt e.on i else true) && edgesM i es

/-- One outcome, no more. -/
noncomputable def Res.one {α β : Type} (k : α → Tr AObj → Nat → Nat → Nat → Res β) : Res α → Res β
  | .ok a h n r w => (k a h n r w).add r w
  | _ => .fail

noncomputable def drawM (T : Tab) (call : Call) (yield : Yield) (nt : Nat) (ops : List Oper) : List Oper → List Fp → Tr Value → M (Tr Value)
  | [], _, tm => M.pure tm
  | o :: rest, fs, tm => fun h n => Res.one (fun tm1 h1 n1 r1 w1 =>
      bif edgesM fs.length o.after.toList && checkM ⟨befM fs o.after.toList, looksM ops o, dstM o.dst, r1, w1⟩ 0 fs then
        drawM T call yield nt ops rest (fs ++ [⟨befM fs o.after.toList, looksM ops o, dstM o.dst, r1, w1⟩]) tm1 h1 n1
      else .fail) (stepM T call yield nt ops tm o h n)

noncomputable def params : Nat → List Value → Tr Value → Tr Value
  | _, [], t => t
  | i, v :: vs, t => params (Nat.succ i) vs (t.set 20 i (some v))

noncomputable def resM (T : Tab) (tm : Tr Value) : List ResultVar → M (List Value)
  | [] => M.pure []
  | .tmp t :: rs => M.opt (tm.get t) fun v => M.bind (resM T tm rs) fun vs => M.pure (v :: vs)
  | .cell a t :: rs => M.opt (T.ty t) fun i => M.opt (tm.get a) fun p => M.bind (loadM i p) fun v => M.bind (resM T tm rs) fun vs => M.pure (v :: vs)

def tupM : List Value → Value
  | [v] => v
  | vs => .tuple ⟨vs⟩

/-! Outcomes that are alike are made one: what is not the same in both is forgotten. -/
mutual
def veq : Nat → Value → Value → Bool
  | 0, _, _ => false
  | f + 1, x, y => match x, y with
    | .bool a, .bool b => a == b
    | .int k a, .int l b => decide (k = l) && (a == b)
    | .pointer none, .pointer none => true
    | .pointer (some ⟨a, i, none⟩), .pointer (some ⟨b, j, none⟩) => Nat.beq a b && Nat.beq i j
    | .slice none a b, .slice none c d => Nat.beq a c && Nat.beq b d
    | .slice (some ⟨a, i, none⟩) n c, .slice (some ⟨b, j, none⟩) m d => Nat.beq a b && Nat.beq i j && Nat.beq n m && Nat.beq c d
    | .map none, .map none => true
    | .map (some a), .map (some b) => Nat.beq a b
    | .nilFunc, .nilFunc => true
    | .agg a, .agg b => veqs f a.toList b.toList
    | .tuple a, .tuple b => veqs f a.toList b.toList
    | _, _ => false
def veqs : Nat → List Value → List Value → Bool
  | 0, _, _ => false
  | _ + 1, [], [] => true
  | f + 1, x :: xs, y :: ys => veq f x y && veqs f xs ys
  | _ + 1, _, _ => false
end

def oeq : Option AObj → Option AObj → Bool
  | some (.cells a t), some (.cells b u) => Nat.beq t u && veqs 1000 a b
  | _, _ => false

/-- At the places of the mask what is not alike is forgotten; i is the place, s the step. -/
def mergeT (w : Nat) : Tr AObj → Tr AObj → Nat → Nat → Tr AObj
  | .node l v r, .node l' v' r', i, s => .node (mergeT w l l' (i + s) (s * 2)) (bif Nat.beq (Nat.mod (Nat.shiftRight w i) 2) 1 then (bif oeq v v' then v else none) else v) (mergeT w r r' (i + s + s) (s * 2))
  | _, _, _, _ => .nil

def merge2 (x y : Res Value) : Res Value :=
  match x, y with
  | .ok a h n r w, .ok b g m r' w' => bif veq 1000 a b && Nat.beq n m then .ok a (mergeT (Nat.lor w w') h g 0 1) n (Nat.lor r r') (Nat.lor w w') else .fail
  | _, _ => .fail

def Res.unite : Res Value → Res Value
  | .alt x y => merge2 x.unite y.unite
  | x => x

abbrev Exec := Nat → Code → Tr Value → M (Ex × Tr Value)

noncomputable def finM (T : Tab) (fn : Func) (p : Ex × Tr Value) : M Value :=
  match p.1 with
  | .exit _ => M.fail
  | _ => M.bind (resM T p.2 fn.results.toList) fun vs => M.pure (tupM vs)

noncomputable def bodyM (T : Tab) (ex : Exec) (fn : Func) (args : List Value) : M Value :=
  M.grd (Nat.ble args.length fn.ntmps && Nat.ble args.length 60000) fun _ => M.opt fn.body fun b => M.bind (ex fn.ntmps b (params 0 args .nil)) (finM T fn)

/-- A call. -/
noncomputable def callG (T : Tab) (ex : Exec) (g : FuncId) (args : List Value) : M Value :=
  match T.ov g with
  | some m => m args
  | none => M.opt (T.fn g) fun fn => bif T.un g then fun h n => (bodyM T ex fn args h n).unite else bodyM T ex fn args

noncomputable def setPs (nt : Nat) : List Tmp → List Value → Tr Value → Option (Tr Value)
  | [], [], tm => some tm
  | p :: ps, v :: vs, tm => match putT nt tm (some p) v with
    | none => none
    | some tm => setPs nt ps vs tm
  | _, _, _ => none

def isNormal : Ex → Bool
  | .normal => true
  | _ => false

structure LoopR where
  nt : Nat
  tm : Tr Value
  ps : List Tmp
  assign : Code
  body : Code
  pend : Ex
  busy : Bool
def loopV : AObj → Option LoopR
  | .loop nt tm ps assign body pend busy => some ⟨nt, tm, ps, assign, body, pend, busy⟩
  | _ => none

def LoopR.obj (s : LoopR) : AObj := .loop s.nt s.tm s.ps s.assign s.body s.pend s.busy
noncomputable def loopM (l : Nat) : M LoopR := M.bind (rd l) fun o => M.opt (loopV o) M.pure

/-- A round of a loop over a function. -/
noncomputable def yieldG (ex : Exec) (l : Nat) (args : List Value) : M Value :=
  M.bind (loopM l) fun s => M.opt (setPs s.nt s.ps args s.tm) fun tm1 => M.bind (ex s.nt s.assign tm1) fun p => M.grd (isNormal p.1) fun _ =>
    M.bind (loopM l) fun s2 => M.grd (isNormal s2.pend && !s2.busy) fun _ => M.bind (wr l { s2 with busy := true }.obj) fun _ =>
    M.bind (ex s.nt s.body p.2) fun q => M.bind (loopM l) fun s3 => M.bind (wr l { s3 with pend := q.1, busy := false }.obj) fun _ => M.pure (.bool (isNormal q.1))

/-- No loop over a function lies within. -/
noncomputable def noRange (c : Code) : Bool :=
  Code.rec (motive := fun _ => Bool) true (fun _ _ _ => true) (fun _ _ a b => a && b) (fun _ _ _ a b => a && b) (fun _ _ a => a) (fun _ a => a) (fun _ _ _ _ _ _ => false) (fun _ => true) (fun _ a => a) (fun _ => true) (fun _ => true) true (fun _ => true) c

noncomputable def rangeV (call : Call) (nt : Nat) (ps : List Tmp) (assign body : Code) (tm : Tr Value) (v : Value) : M (Ex × Tr Value) := match v with
  | .func (.func f) first cap => M.grd (noRange assign && noRange body) fun _ => M.bind (M.new (.loop nt tm ps assign body .normal false)) fun l =>
      M.bind (call f (first.toList ++ [.func (.yield l) #[] #[]] ++ cap.toList)) fun _ => M.bind (loopM l) fun s => M.grd (!s.busy) fun _ => M.bind (kill l) fun _ => M.pure (s.pend, tm)
  | _ => M.fail
noncomputable def rangeG (call : Call) (nt : Nat) (g : Operand) (ps : List Tmp) (assign body : Code) (tm : Tr Value) : M (Ex × Tr Value) :=
  M.opt (ev tm g) (rangeV call nt ps assign body tm)

def inBlock (id : Nat) (p : Ex × Tr Value) : M (Ex × Tr Value) :=
  match p.1 with
  | .exit j => M.pure (bif Nat.beq j id then .normal else .exit j, p.2)
  | e => M.pure (e, p.2)

noncomputable def thenM (k : Tr Value → M (Ex × Tr Value)) (p : Ex × Tr Value) : M (Ex × Tr Value) :=
  match p.1 with
  | .normal => k p.2
  | e => M.pure (e, p.2)

def boolV : Value → Option Bool
  | .bool t => some t
  | _ => none

def norm (tm : Tr Value) : M (Ex × Tr Value) := M.pure (.normal, tm)

/-- One node of code, what lies within it by ex. -/
noncomputable def codeM (T : Tab) (ex : Exec) (nt : Nat) (c : Code) (tm : Tr Value) : M (Ex × Tr Value) :=
  match c with
  | .skip => norm tm
  | .region _ ops false => M.bind (opsM T (callG T ex) (yieldG ex) nt ops.toList ops.toList tm) norm
  | .region _ ops true => M.bind (drawM T (callG T ex) (yieldG ex) nt ops.toList ops.toList [] tm) norm
  | .seq a b => M.bind (ex nt a tm) (thenM (ex nt b))
  | .cond x a b => M.opt (ev tm x) fun v => M.opt (boolV v) fun t => ex nt (bif t then a else b) tm
  | .block id a => M.bind (ex nt a tm) (inBlock id)
  | .loop a => M.bind (ex nt a tm) (thenM (ex nt (.loop a)))
  | .rangeFunc g ps assign body => rangeG (callG T ex) nt g ps.toList assign body tm
  | .exit id => M.pure (.exit id, tm)
  | .ret => M.pure (.ret, tm)
  | .scope _ => M.fail
  | .label _ => norm tm
  | _ => M.fail

/-- Code. -/
noncomputable def exec (T : Tab) (f : Nat) : Exec :=
  Nat.rec (motive := fun _ => Exec) (fun _ _ _ => M.fail) (fun _ ih => codeM T ih) f

end Go.IM
