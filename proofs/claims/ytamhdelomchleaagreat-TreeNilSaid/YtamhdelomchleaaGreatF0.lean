/- The leaner machine, with small steps for the kernel: the same machine. -/
import Derived.Test.YtamhdelomchleaaGreatI3
set_option linter.unusedVariables false
set_option linter.unusedSimpArgs false
namespace Go.IM

theorem Res.add_zero {α : Type} : ∀ (x : Res α), x.add 0 0 = x
  | .fail => rfl
  | .ok a h n r w => by rw [Res.add_ok]; congr 1 <;> exact Nat.zero_or _
  | .alt x y => by rw [Res.add_alt, Res.add_zero x, Res.add_zero y]
theorem Res.add_add {α : Type} (r w r1 w1 : Nat) : ∀ (x : Res α), (x.add r1 w1).add r w = x.add (Nat.lor r r1) (Nat.lor w w1)
  | .fail => rfl
  | .ok a h n r2 w2 => by simp only [Res.add_ok]; congr 1 <;> exact (Nat.or_assoc _ _ _).symm
  | .alt x y => by simp only [Res.add_alt, Res.add_add r w r1 w1 x, Res.add_add r w r1 w1 y]
theorem Res.bind_add {α β : Type} (k : α → Tr AObj → Nat → Res β) (r w : Nat) : ∀ (x : Res α), Res.bind k (x.add r w) = (Res.bind k x).add r w
  | .fail => rfl
  | .ok a h n r1 w1 => by rw [Res.add_ok, Res.bind_ok, Res.bind_ok, Res.add_add]
  | .alt x y => by rw [Res.add_alt, Res.bind_alt, Res.bind_alt, Res.add_alt, Res.bind_add k r w x, Res.bind_add k r w y]
theorem Res.bind_bind {α β γ : Type} (f : α → Tr AObj → Nat → Res β) (k : β → Tr AObj → Nat → Res γ) : ∀ (x : Res α), Res.bind k (Res.bind f x) = Res.bind (fun a h n => Res.bind k (f a h n)) x
  | .fail => rfl
  | .ok a h n r w => by rw [Res.bind_ok, Res.bind_ok, Res.bind_add]
  | .alt x y => by rw [Res.bind_alt, Res.bind_alt, Res.bind_alt, Res.bind_bind f k x, Res.bind_bind f k y]

section
variable {α β γ : Type}
theorem bind_opt (x : Option α) (f : α → M β) (k : β → M γ) : M.bind (M.opt x f) k = M.opt x fun a => M.bind (f a) k := by cases x <;> rfl
theorem bind_grd (b : Bool) (f : Unit → M β) (k : β → M γ) : M.bind (M.grd b f) k = M.grd b fun a => M.bind (f a) k := by cases b <;> rfl
theorem bind_fail (k : β → M γ) : M.bind (M.fail) k = M.fail := rfl
theorem bind_pure (a : α) (k : α → M β) : M.bind (M.pure a) k = k a := by
  funext h n
  exact Res.add_zero _
theorem bind_assoc (m : M α) (f : α → M β) (k : β → M γ) : M.bind (M.bind m f) k = M.bind m fun a => M.bind (f a) k := by
  funext h n
  exact Res.bind_bind (f := f) (k := k) _
theorem bind_opt_pure (x : Option α) (k : α → M β) : M.bind (M.opt x M.pure) k = M.opt x k := by
  rw [bind_opt]
  congr 1
  funext a
  exact bind_pure a k
end

noncomputable def evF (x : Operand) : Tr Value → Option Value :=
  Operand.rec (motive := fun _ => Tr Value → Option Value) (fun t tm => Tr.get tm t) (fun v _ => bif gnd v then some v else none) (fun _ _ => none) (fun f _ => some (.func (.func f) #[] #[])) x
theorem evF_eq (x : Operand) (tm : Tr Value) : evF x tm = ev tm x := by cases x <;> rfl

/-! ### Small ints -/
/-- An int of 64 digits. -/
noncomputable def i64F (v : Value) : Option Int :=
  Value.casesOn (motive_1 := fun _ => Option Int) v (fun _ => none) (fun k n => IntKind.casesOn (motive := fun _ => Option Int) k none none none (some n) none none none none) (fun _ _ => none) (fun _ _ _ => none) (fun _ => none) (fun _ => none) (fun _ _ _ => none) (fun _ => none) (fun _ => none) (fun _ _ _ => none) none (fun _ _ => none) none (fun _ => none) (fun _ => none)
theorem i64F_some {v : Value} {a : Int} (h : i64F v = some a) : v = .int .i64 a := by
  cases v with
  | int k n => cases k <;> first | (have h : some n = some a := h; cases h; rfl) | (have h : (none : Option Int) = some a := h; cases h)
  | _ => have h : (none : Option Int) = some a := h; cases h

theorem wrap_small {n : Nat} (h : n ≤ 127) : IntKind.wrap .i64 (n : Int) = n := by
  unfold IntKind.wrap
  have e : (n : Int) % (2 ^ IntKind.bits .i64 : Int) = n := by
    apply Int.emod_eq_of_lt (by omega)
    have : (2 ^ IntKind.bits .i64 : Int) = 18446744073709551616 := rfl
    omega
  simp only [e]
  rw [if_neg]
  simp only [IntKind.signed, Bool.true_and, decide_eq_true_eq]
  have : (2 ^ (IntKind.bits .i64 - 1) : Int) = 9223372036854775808 := rfl
  omega

noncomputable def addF (a b : Int) : Int :=
  Int.casesOn (motive := fun _ => Int) a (fun m => Int.casesOn (motive := fun _ => Int) b (fun n => Bool.rec (motive := fun _ => Int) (IntKind.wrap .i64 (a + b)) (Int.ofNat (Nat.add m n)) (Nat.ble (Nat.add m n) 127)) (fun _ => IntKind.wrap .i64 (a + b))) (fun _ => IntKind.wrap .i64 (a + b))
theorem addF_eq (a b : Int) : addF a b = IntKind.wrap .i64 (a + b) := by
  cases a with
  | negSucc m => rfl
  | ofNat m =>
    cases b with
    | negSucc n => rfl
    | ofNat n =>
      show @Bool.rec (fun _ => Int) (IntKind.wrap .i64 (Int.ofNat m + Int.ofNat n)) (Int.ofNat (m + n)) (Nat.ble (m + n) 127) = _
      cases h : Nat.ble (m + n) 127 with
      | false => rfl
      | true => exact (wrap_small (Nat.le_of_ble_eq_true h)).symm
noncomputable def subF (a b : Int) : Int :=
  Int.casesOn (motive := fun _ => Int) a (fun m => Int.casesOn (motive := fun _ => Int) b (fun n => Bool.rec (motive := fun _ => Int) (IntKind.wrap .i64 (a - b)) (Bool.rec (motive := fun _ => Int) (IntKind.wrap .i64 (a - b)) (Int.ofNat (Nat.sub m n)) (Nat.ble n m)) (Nat.ble m 127)) (fun _ => IntKind.wrap .i64 (a - b))) (fun _ => IntKind.wrap .i64 (a - b))
theorem subF_eq (a b : Int) : subF a b = IntKind.wrap .i64 (a - b) := by
  cases a with
  | negSucc m => rfl
  | ofNat m =>
    cases b with
    | negSucc n => rfl
    | ofNat n =>
      show @Bool.rec (fun _ => Int) (IntKind.wrap .i64 (Int.ofNat m - Int.ofNat n)) (@Bool.rec (fun _ => Int) (IntKind.wrap .i64 (Int.ofNat m - Int.ofNat n)) (Int.ofNat (m - n)) (Nat.ble n m)) (Nat.ble m 127) = _
      cases h : Nat.ble m 127 with
      | false => rfl
      | true =>
        cases h2 : Nat.ble n m with
        | false => rfl
        | true =>
          have h := Nat.le_of_ble_eq_true h
          have h2 := Nat.le_of_ble_eq_true h2
          have e : Int.ofNat m - Int.ofNat n = ((m - n : Nat) : Int) := by simp only [Int.ofNat_eq_natCast]; omega
          rw [e]
          exact (wrap_small (by omega)).symm
noncomputable def ltF (a b : Int) : Bool :=
  Int.casesOn (motive := fun _ => Bool) a (fun m => Int.casesOn (motive := fun _ => Bool) b (fun n => Nat.ble (Nat.succ m) n) (fun _ => false)) (fun _ => decide (a < b))
theorem ltF_eq (a b : Int) : ltF a b = decide (a < b) := by
  cases a with
  | negSucc m => rfl
  | ofNat m =>
    cases b with
    | negSucc n => exact (decide_eq_false (by simp only [Int.ofNat_eq_natCast]; omega)).symm
    | ofNat n =>
      show Nat.ble (m + 1) n = _
      rw [Bool.eq_iff_iff]
      simp only [Nat.ble_eq, decide_eq_true_eq, Int.ofNat_eq_natCast]
      omega
noncomputable def leF (a b : Int) : Bool :=
  Int.casesOn (motive := fun _ => Bool) a (fun m => Int.casesOn (motive := fun _ => Bool) b (fun n => Nat.ble m n) (fun _ => false)) (fun _ => decide (a ≤ b))
theorem leF_eq (a b : Int) : leF a b = decide (a ≤ b) := by
  cases a with
  | negSucc m => rfl
  | ofNat m =>
    cases b with
    | negSucc n => exact (decide_eq_false (by simp only [Int.ofNat_eq_natCast]; omega)).symm
    | ofNat n =>
      show Nat.ble m n = _
      rw [Bool.eq_iff_iff]
      simp only [Nat.ble_eq, decide_eq_true_eq, Int.ofNat_eq_natCast]
      omega
noncomputable def eqF (a b : Int) : Bool :=
  Int.casesOn (motive := fun _ => Bool) a (fun m => Int.casesOn (motive := fun _ => Bool) b (fun n => Nat.beq m n) (fun _ => false)) (fun _ => a == b)
theorem eqF_eq (a b : Int) : eqF a b = (a == b) := by
  cases a with
  | negSucc m => rfl
  | ofNat m =>
    cases b with
    | negSucc n => exact (beq_eq_false_iff_ne.2 (by simp)).symm
    | ofNat n =>
      show Nat.beq m n = _
      rw [Bool.eq_iff_iff]
      simp only [Nat.beq_eq, beq_iff_eq, Int.ofNat_eq_natCast]
      omega
noncomputable def bin64 (op : BinOp) : Int → Int → Option Value :=
  BinOp.casesOn (motive := fun _ => Int → Int → Option Value) op
    (fun a b => some (.int .i64 (addF a b))) (fun a b => some (.int .i64 (subF a b))) (fun a b => binV .mul .i64 a .i64 b) (fun a b => binV .quo .i64 a .i64 b) (fun a b => binV .rem .i64 a .i64 b)
    (fun a b => binV .and .i64 a .i64 b) (fun a b => binV .or .i64 a .i64 b) (fun a b => binV .xor .i64 a .i64 b) (fun a b => binV .shl .i64 a .i64 b) (fun a b => binV .shr .i64 a .i64 b) (fun a b => binV .andNot .i64 a .i64 b)
    (fun a b => some (.bool (eqF a b))) (fun a b => some (.bool (Bool.rec (motive := fun _ => Bool) true false (eqF a b)))) (fun a b => some (.bool (ltF a b))) (fun a b => some (.bool (leF a b))) (fun a b => some (.bool (ltF b a))) (fun a b => some (.bool (leF b a)))
theorem bin64_eq (op : BinOp) (a b : Int) : bin64 op a b = binV op .i64 a .i64 b := by
  cases op <;> simp only [bin64, binV, binInt, decide_true, cond_true, addF_eq, subF_eq, eqF_eq, ltF_eq, leF_eq, gt_iff_lt, ge_iff_le]
  show some (Value.bool (@Bool.rec (fun _ => Bool) true false (a == b))) = some (.bool (!(a == b)))
  cases a == b <;> rfl

section
variable {β : Type}
noncomputable def binK (T : Tab) (op : BinOp) (t : TypeId) (x y : Value) (k : Value → M β) : M β :=
  Option.rec (motive := fun _ => M β) (M.bind (binM T op t x y) k) (fun a => Option.rec (motive := fun _ => M β) (M.bind (binM T op t x y) k) (fun b => M.opt (bin64 op a b) k) (i64F y)) (i64F x)
theorem binK_eq (T : Tab) (op : BinOp) (t : TypeId) (x y : Value) (k : Value → M β) : binK T op t x y k = M.bind (binM T op t x y) k := by
  unfold binK
  cases hx : i64F x with
  | none => rfl
  | some a =>
    cases hy : i64F y with
    | none => rfl
    | some b =>
      show M.opt (bin64 op a b) k = _
      rw [i64F_some hx, i64F_some hy, bin64_eq]
      exact (bind_opt_pure _ _).symm

/-- An element's address. -/
noncomputable def sliceF (v : Value) : Option (Option Addr × Nat) :=
  Value.casesOn (motive_1 := fun _ => Option (Option Addr × Nat)) v (fun _ => none) (fun _ _ => none) (fun _ _ => none) (fun _ _ _ => none) (fun _ => none) (fun _ => none) (fun a n _ => some (a, n)) (fun _ => none) (fun _ => none) (fun _ _ _ => none) none (fun _ _ => none) none (fun _ => none) (fun _ => none)
noncomputable def ixF (k : K) (v u : Value) : Option Value :=
  Option.rec (motive := fun _ => Option Value) (indexAddrV k v u) (fun i => K.casesOn (motive := fun _ => Option Value) k (indexAddrV k v u) (fun _ => indexAddrV k v u) (fun _ => indexAddrV k v u)
    (fun _ sz _ => Option.rec (motive := fun _ => Option Value) (indexAddrV k v u) (fun p => Option.rec (motive := fun _ => Option Value) (indexAddrV k v u) (fun ad => Option.rec (motive := fun _ => Option Value)
      (Int.casesOn (motive := fun _ => Option Value) i (fun m => Bool.rec (motive := fun _ => Option Value) none (some (.pointer (some ⟨ad.block, Nat.add ad.off (Nat.mul m sz), none⟩))) (Nat.ble (Nat.succ m) p.2)) (fun _ => none)) (fun _ => indexAddrV k v u) ad.spot) p.1) (sliceF v))
    (fun _ _ _ _ => indexAddrV k v u) (fun _ _ => indexAddrV k v u) (fun _ => indexAddrV k v u) (indexAddrV k v u) (indexAddrV k v u) (indexAddrV k v u)) (i64F u)
theorem ixF_eq (k : K) (v u : Value) : ixF k v u = indexAddrV k v u := by
  unfold ixF
  cases hu : i64F u with
  | none => rfl
  | some i =>
    have := i64F_some hu
    subst this
    cases k with
    | slice e sz by_ =>
      cases v with
      | slice a n c =>
        cases a with
        | none => rfl
        | some ad =>
          obtain ⟨b, off, vw⟩ := ad
          cases vw with
          | some w => rfl
          | none =>
            show @Int.casesOn (fun _ => Option Value) i (fun m => @Bool.rec (fun _ => Option Value) none (some (.pointer (some ⟨b, Nat.add off (Nat.mul m sz), none⟩))) (Nat.ble (Nat.succ m) n)) (fun _ => none) = (bif decide (0 ≤ i) && decide (i < n) then some (.pointer (some ⟨b, off + i.toNat * sz, none⟩)) else none)
            cases i with
            | negSucc m =>
              have : decide (0 ≤ Int.negSucc m) = false := decide_eq_false (by omega)
              rw [this]
              rfl
            | ofNat m =>
              have h0 : decide (0 ≤ Int.ofNat m) = true := decide_eq_true (by simp)
              rw [h0]
              show @Bool.rec (fun _ => Option Value) none _ (Nat.ble (Nat.succ m) n) = _
              have : Nat.ble (Nat.succ m) n = decide (Int.ofNat m < n) := by
                rw [Bool.eq_iff_iff]
                simp only [Nat.ble_eq, decide_eq_true_eq, Int.ofNat_eq_natCast]
                omega
              rw [this]
              cases decide (Int.ofNat m < n) <;> rfl
      | _ => rfl
    | _ => rfl

/-- One operation, and on: the alternatives closed. -/
noncomputable def opK (o : Op) : Tab → Call → Yield → Tr Value → (Value → M β) → M β :=
  Op.rec (motive := fun _ => Tab → Call → Yield → Tr Value → (Value → M β) → M β)
    (fun x => fun T c y tm k => M.opt (evF x tm) k)
    (fun x => fun T c y tm k => M.opt (evF x tm) k)
    (fun a b d => fun T c y tm k => M.opt (evF a tm) fun v => M.opt (evF b tm) fun x => M.opt (evF d tm) fun u => M.opt (pickV v x u) k)
    (fun t => fun T c y tm k => M.bind (opAlloc T t) k)
    (fun t x => fun T c y tm k => M.bind (opBox tm t x) k)
    (fun t ps => fun T c y tm k => M.bind (opBuild T tm t ps.toList) k)
    (fun t len ps => fun T c y tm k => M.bind (opBuildSlice T tm t len ps.toList) k)
    (fun _ _ _ _ => fun T c y tm k => M.fail)
    (fun t a => fun T c y tm k => M.opt (T.ty t) fun i => M.opt (evF a tm) fun v => M.bind (loadM i v) k)
    (fun t a x => fun T c y tm k => M.opt (T.ty t) fun i => M.opt (evF a tm) fun v => M.opt (evF x tm) fun u => M.bind (storeM i v u) k)
    (fun _ => fun T c y tm k => M.fail)
    (fun _ => fun T c y tm k => M.fail)
    (fun x => fun T c y tm k => M.opt (evF x tm) fun v => M.opt (nilV v) k)
    (fun op t x z _ => fun T c y tm k => M.opt (evF x tm) fun v => M.opt (evF z tm) fun u => binK T op t v u k)
    (fun op _ x => fun T c y tm k => M.opt (evF x tm) fun v => M.opt (unV op v) k)
    (fun src dst x => fun T c y tm k => M.opt (T.ty src) fun _ => M.opt (T.ty dst) fun i => M.opt (evF x tm) fun v => M.opt (convV i.k v) k)
    (fun _ _ => fun T c y tm k => M.fail)
    (fun _ _ => fun T c y tm k => M.fail)
    (fun fn first cap => fun T c y tm k => M.bind (opFunc tm fn first.toList cap.toList) k)
    (fun t r => fun T c y tm k => M.bind (M.opt (T.ty t) fun i => M.grd (isMapK i.k) fun _ => opMap tm r) k)
    (fun _ _ => fun T c y tm k => M.fail)
    (fun t l cp => fun T c y tm k => M.bind (opMake T tm t l cp) k)
    (fun t x lo hi mx => fun T c y tm k => Option.rec (motive := fun _ => M β) (M.bind (opSlice T tm t x lo hi) k) (fun _ => M.fail) mx)
    (fun t x f => fun T c y tm k => M.opt (T.ty t) fun i => M.opt (evF x tm) fun v => M.opt (fieldAddrV i.k v f) k)
    (fun t x f => fun T c y tm k => M.opt (T.ty t) fun i => M.opt (evF x tm) fun v => M.opt (fieldV i.k v f) k)
    (fun t x ix => fun T c y tm k => M.opt (T.ty t) fun i => M.opt (evF x tm) fun v => M.opt (evF ix tm) fun u => M.opt (ixF i.k v u) k)
    (fun t x ix => fun T c y tm k => M.opt (T.ty t) fun i => M.opt (evF x tm) fun v => M.opt (evF ix tm) fun u => M.opt (indexV i.k v u) k)
    (fun t x ix ok => fun T c y tm k => M.bind (M.opt (T.ty t) fun i => M.opt (ev tm x) fun v => M.opt (ev tm ix) fun u => lookM T i.k v u ok) k)
    (fun t m kk x => fun T c y tm k => M.bind (M.opt (T.ty t) fun i => M.grd (isMapK i.k) fun _ => M.opt (ev tm m) fun v => M.opt (ev tm kk) fun kk => M.opt (ev tm x) fun u => updM v kk u) k)
    (fun _ _ _ => fun T c y tm k => M.fail)
    (fun _ _ _ _ => fun T c y tm k => M.fail)
    (fun t x => fun T c y tm k => M.bind (M.opt (T.ty t) fun i => M.grd (isMapK i.k) fun _ => M.opt (ev tm x) rangeM) k)
    (fun it s => fun T c y tm k => Bool.rec (motive := fun _ => M β) (M.bind (M.opt (ev tm it) nextM) k) M.fail s)
    (fun it => fun T c y tm k => M.bind (M.opt (ev tm it) entryM) k)
    (fun _ _ _ _ => fun T c y tm k => M.fail)
    (fun t ix => fun T c y tm k => M.opt (evF t tm) fun v => M.opt (tupAt v ix) k)
    (fun d => fun T c y tm k => M.bind (opCall T c y tm d) k)
    (fun _ => fun T c y tm k => M.fail)
    (fun _ => fun T c y tm k => M.fail)
    (fun _ => fun T c y tm k => M.fail)
    (fun _ _ => fun T c y tm k => M.fail)
    (fun _ _ _ => fun T c y tm k => M.fail)
    (fun _ _ => fun T c y tm k => M.fail) o

theorem opK_eq (T : Tab) (call : Call) (yield : Yield) (tm : Tr Value) (k : Value → M β) (o : Op) : opK o T call yield tm k = M.bind (opM T call yield tm o) k := by
  cases o with
  | slice t x lo hi mx => cases mx <;> rfl
  | next it s => cases s <;> rfl
  | move x => simp only [opK, opM, evF_eq, bind_opt_pure]
  | assign x => simp only [opK, opM, evF_eq, bind_opt_pure]
  | pick a b c => simp only [opK, opM, opPick, evF_eq, bind_opt, bind_pure]
  | load t a => simp only [opK, opM, opLoad, evF_eq, bind_opt]
  | store t a x => simp only [opK, opM, opStore, evF_eq, bind_opt]
  | nilCheck x => simp only [opK, opM, evF_eq, bind_opt, bind_pure]
  | binOp op t x y z => simp only [opK, opM, evF_eq, bind_opt, binK_eq]
  | unOp op t x => simp only [opK, opM, evF_eq, bind_opt, bind_pure]
  | convert s d x => simp only [opK, opM, evF_eq, bind_opt, bind_pure]
  | fieldAddr t x f => simp only [opK, opM, evF_eq, bind_opt, bind_pure]
  | field t x f => simp only [opK, opM, evF_eq, bind_opt, bind_pure]
  | indexAddr t x y => simp only [opK, opM, evF_eq, bind_opt, bind_pure, ixF_eq]
  | index t x y => simp only [opK, opM, evF_eq, bind_opt, bind_pure]
  | extract x i => simp only [opK, opM, evF_eq, bind_opt, bind_pure]
  | _ => rfl

noncomputable def putK (nt : Nat) (tm : Tr Value) (d : Option Tmp) (v : Value) (k : Tr Value → M β) : M β :=
  Option.rec (motive := fun _ => M β) (k tm) (fun d => Bool.rec (motive := fun _ => M β) M.fail (Bool.rec (motive := fun _ => M β) M.fail (k (Tr.set 20 tm d (some v))) (Nat.ble (Nat.succ d) 65536)) (Nat.ble (Nat.succ d) nt)) d
theorem putK_eq (nt : Nat) (tm : Tr Value) (d : Option Tmp) (v : Value) (k : Tr Value → M β) : putK nt tm d v k = M.opt (putT nt tm d v) k := by
  cases d with
  | none => rfl
  | some d =>
    show @Bool.rec (fun _ => M β) M.fail (@Bool.rec (fun _ => M β) M.fail (k (Tr.set 20 tm d (some v))) (Nat.blt d 65536)) (Nat.blt d nt) = M.opt (bif Nat.blt d nt && Nat.blt d 65536 then some (Tr.set 20 tm d (some v)) else none) k
    cases Nat.blt d nt <;> cases Nat.blt d 65536 <;> rfl

noncomputable def stepK (T : Tab) (call : Call) (yield : Yield) (nt : Nat) (ops : List Oper) (tm : Tr Value) (o : Oper) (k : Tr Value → M β) : M β :=
  Option.rec (motive := fun _ => M β) (opK o.op T call yield tm fun v => putK nt tm o.dst v k)
    (fun p => M.opt (wanted ops tm (some p)) fun b => Bool.rec (motive := fun _ => M β) (putK nt tm o.dst undef k) (opK o.op T call yield tm fun v => putK nt tm o.dst v k) b) o.guard
theorem stepK_eq (T : Tab) (call : Call) (yield : Yield) (nt : Nat) (ops : List Oper) (tm : Tr Value) (o : Oper) (k : Tr Value → M β) : stepK T call yield nt ops tm o k = M.bind (stepM T call yield nt ops tm o) k := by
  unfold stepK stepM
  have h1 : (opK o.op T call yield tm fun v => putK nt tm o.dst v k) = M.bind (M.bind (opM T call yield tm o.op) fun v => M.opt (putT nt tm o.dst v) M.pure) k := by
    rw [opK_eq, bind_assoc]
    congr 1
    funext v
    rw [putK_eq, bind_opt_pure]
  have h2 : putK nt tm o.dst undef k = M.bind (M.opt (putT nt tm o.dst undef) M.pure) k := by rw [putK_eq, bind_opt_pure]
  rw [bind_opt, h1, h2]
  cases o.guard with
  | none => rfl
  | some p =>
    show M.opt _ _ = M.opt _ _
    congr 1
    funext b
    cases b <;> rfl
end

noncomputable def opsF (T : Tab) (call : Call) (yield : Yield) (nt : Nat) (ops l : List Oper) : Tr Value → M (Tr Value) :=
  List.rec (motive := fun _ => Tr Value → M (Tr Value)) (fun tm => M.pure tm) (fun o _ ih tm => stepK T call yield nt ops tm o ih) l
theorem opsF_eq (T : Tab) (call : Call) (yield : Yield) (nt : Nat) (ops : List Oper) : ∀ (l : List Oper) (tm : Tr Value), opsF T call yield nt ops l tm = opsM T call yield nt ops l tm
  | [], tm => rfl
  | o :: rest, tm => by
    show stepK T call yield nt ops tm o (opsF T call yield nt ops rest) = _
    unfold opsM
    rw [stepK_eq]
    congr 1
    funext tm
    exact opsF_eq T call yield nt ops rest tm

noncomputable def stepF (T : Tab) (call : Call) (yield : Yield) (nt : Nat) (ops : List Oper) (tm : Tr Value) (o : Oper) : M (Tr Value) := stepK T call yield nt ops tm o M.pure
theorem bind_pure_right {α : Type} (m : M α) : M.bind m M.pure = m := by
  funext h n
  show Res.bind M.pure (m h n) = m h n
  generalize m h n = x
  induction x with
  | fail => rfl
  | ok a h n r w =>
    show (Res.ok a h n (Nat.lor r 0) (Nat.lor w 0)) = _
    congr 1 <;> exact Nat.or_zero _
  | alt x y ihx ihy =>
    show (Res.alt (Res.bind M.pure x) (Res.bind M.pure y)) = _
    rw [ihx, ihy]
theorem stepF_eq (T : Tab) (call : Call) (yield : Yield) (nt : Nat) (ops : List Oper) (tm : Tr Value) (o : Oper) : stepF T call yield nt ops tm o = stepM T call yield nt ops tm o := by
  unfold stepF
  rw [stepK_eq, bind_pure_right]

noncomputable def drawF (T : Tab) (call : Call) (yield : Yield) (nt : Nat) (ops : List Oper) : List Oper → List Fp → Tr Value → M (Tr Value)
  | [], _, tm => M.pure tm
  | o :: rest, fs, tm => fun h n => Res.one (fun tm1 h1 n1 r1 w1 =>
      bif edgesM fs.length o.after.toList && checkM ⟨befM fs o.after.toList, looksM ops o, dstM o.dst, r1, w1⟩ 0 fs then
        drawF T call yield nt ops rest (fs ++ [⟨befM fs o.after.toList, looksM ops o, dstM o.dst, r1, w1⟩]) tm1 h1 n1
      else .fail) (stepF T call yield nt ops tm o h n)
theorem drawF_eq (T : Tab) (call : Call) (yield : Yield) (nt : Nat) (ops : List Oper) : ∀ (l : List Oper) (fs : List Fp) (tm : Tr Value), drawF T call yield nt ops l fs tm = drawM T call yield nt ops l fs tm
  | [], fs, tm => rfl
  | o :: rest, fs, tm => by
    funext h n
    unfold drawF drawM
    rw [stepF_eq]
    congr 1
    funext tm1 h1 n1 r1 w1
    rw [drawF_eq T call yield nt ops rest]

/-- One node of code, the alternatives closed. -/
noncomputable def codeF (c : Code) : Tab → Exec → Nat → Tr Value → M (Ex × Tr Value) :=
  Code.rec (motive := fun _ => Tab → Exec → Nat → Tr Value → M (Ex × Tr Value))
    (fun _ _ _ tm => norm tm)
    (fun _ ops d => fun T ex nt tm => Bool.rec (motive := fun _ => M (Ex × Tr Value)) (M.bind (opsF T (callG T ex) (yieldG ex) nt ops.toList ops.toList tm) norm) (M.bind (drawF T (callG T ex) (yieldG ex) nt ops.toList ops.toList [] tm) norm) d)
    (fun a b _ _ => fun T ex nt tm => M.bind (ex nt a tm) (thenM (ex nt b)))
    (fun x a b _ _ => fun T ex nt tm => M.opt (evF x tm) fun v => M.opt (boolV v) fun t => ex nt (bif t then a else b) tm)
    (fun id a _ => fun T ex nt tm => M.bind (ex nt a tm) (inBlock id))
    (fun a _ => fun T ex nt tm => M.bind (ex nt a tm) (thenM (ex nt (.loop a))))
    (fun g ps assign body _ _ => fun T ex nt tm => rangeG (callG T ex) nt g ps.toList assign body tm)
    (fun id => fun T ex nt tm => M.pure (.exit id, tm))
    (fun _ _ => fun T ex nt tm => M.fail)
    (fun _ => fun T ex nt tm => norm tm)
    (fun _ => fun T ex nt tm => M.fail)
    (fun T ex nt tm => M.pure (.ret, tm))
    (fun _ => fun T ex nt tm => M.fail) c

theorem codeF_eq (T : Tab) (ex : Exec) (nt : Nat) (c : Code) (tm : Tr Value) : codeF c T ex nt tm = codeM T ex nt c tm := by
  cases c with
  | region id ops d =>
    cases d with
    | false =>
      show M.bind (opsF _ _ _ _ _ _ _) norm = M.bind (opsM _ _ _ _ _ _ _) norm
      rw [opsF_eq]
    | true =>
      show M.bind (drawF _ _ _ _ _ _ _ _) norm = M.bind (drawM _ _ _ _ _ _ _ _) norm
      rw [drawF_eq]
  | cond x a b =>
    show M.opt (evF x tm) _ = M.opt (ev tm x) _
    rw [evF_eq]
  | _ => rfl

noncomputable def execF (T : Tab) (f : Nat) : Exec :=
  Nat.rec (motive := fun _ => Exec) (fun _ _ _ => M.fail) (fun _ ih => fun nt c tm => codeF c T ih nt tm) f

theorem execF_eq (T : Tab) : ∀ f, execF T f = exec T f
  | 0 => rfl
  | f + 1 => by
    funext nt c tm
    show codeF c T (execF T f) nt tm = codeM T (exec T f) nt c tm
    rw [codeF_eq, execF_eq T f]
end Go.IM
