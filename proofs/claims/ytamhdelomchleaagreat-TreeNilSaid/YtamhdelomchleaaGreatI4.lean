/- The leaner machine and the model: which memory is whose. -/
import Derived.Test.YtamhdelomchleaaGreatI3
import Derived.WalkKit
import Derived.Laws.CopyRow
import Derived.Laws.AppendOwn
import Derived.Maps.RangeRun
import Derived.Below
import Derived.RangeFuncLeaves
import Derived.RangeFuncRecord
import Derived.OrdersIn
set_option linter.unusedVariables false
set_option linter.unusedSimpArgs false
namespace Go.IM
open Go.RowKit

/-- Of a name the block, and how many cells it has. -/
abbrev Nam := Nat → Option (Nat × Nat)

inductive VR (ρ : Nam) : Value → Value → Prop
  | bool (b : Bool) : VR ρ (.bool b) (.bool b)
  | int (k : IntKind) (n : Int) : VR ρ (.int k n) (.int k n)
  | str (s : ByteArray) : VR ρ (.string s) (.string s)
  | ptrN : VR ρ (.pointer none) (.pointer none)
  | ptr {i b s : Nat} (off : Nat) (h : ρ i = some (b, s)) : VR ρ (.pointer (some ⟨i, off, none⟩)) (.pointer (some ⟨b, off, none⟩))
  | slN : VR ρ (.slice none 0 0) (.slice none 0 0)
  | sl {i b s : Nat} (off len sz cap : Nat) (h : ρ i = some (b, s)) (hl : len ≤ cap) (hc : off + cap * sz ≤ s) : VR ρ (.slice (some ⟨i, off, none⟩) len sz) (.slice (some ⟨b, off, none⟩) len cap)
  | sl0 {i b s : Nat} (off off' sz : Nat) (h : ρ i = some (b, s)) : VR ρ (.slice (some ⟨i, off, none⟩) 0 sz) (.slice (some ⟨b, off', none⟩) 0 0)
  | mapN : VR ρ (.map none) (.map none)
  | map {i b s : Nat} (h : ρ i = some (b, s)) : VR ρ (.map (some i)) (.map (some b))
  | fnN : VR ρ .nilFunc .nilFunc
  | fn (f : FuncId) {a b c d : List Value} (h1 : a.length = b.length) (h2 : ∀ i, i < a.length → VR ρ (a.getD i undef) (b.getD i undef)) (h3 : c.length = d.length) (h4 : ∀ i, i < c.length → VR ρ (c.getD i undef) (d.getD i undef)) :
      VR ρ (.func (.func f) ⟨a⟩ ⟨c⟩) (.func (.func f) ⟨b⟩ ⟨d⟩)
  | yld {l b s : Nat} (h : ρ l = some (b, s)) : VR ρ (.func (.yield l) #[] #[]) (.func (.yield b) #[] #[])
  | ifN : VR ρ .nilIface .nilIface
  | agg {a b : List Value} (h1 : a.length = b.length) (h2 : ∀ i, i < a.length → VR ρ (a.getD i undef) (b.getD i undef)) : VR ρ (.agg ⟨a⟩) (.agg ⟨b⟩)
  | tup {a b : List Value} (h1 : a.length = b.length) (h2 : ∀ i, i < a.length → VR ρ (a.getD i undef) (b.getD i undef)) : VR ρ (.tuple ⟨a⟩) (.tuple ⟨b⟩)

def VRs (ρ : Nam) (a b : List Value) : Prop := a.length = b.length ∧ ∀ i, i < a.length → VR ρ (a.getD i undef) (b.getD i undef)

/-- The second names all that the first does. -/
def Ext (ρ ρ' : Nam) : Prop := ∀ i x, ρ i = some x → ρ' i = some x
theorem Ext.refl (ρ : Nam) : Ext ρ ρ := fun _ _ h => h
theorem Ext.trans {a b c : Nam} (h : Ext a b) (k : Ext b c) : Ext a c := fun i x e => k i x (h i x e)

theorem VR.mono {ρ ρ' : Nam} (he : Ext ρ ρ') {x y : Value} (h : VR ρ x y) : VR ρ' x y := by
  induction h with
  | bool b => exact .bool b
  | int k n => exact .int k n
  | str s => exact .str s
  | ptrN => exact .ptrN
  | ptr off h => exact .ptr off (he _ _ h)
  | slN => exact .slN
  | sl off len sz cap h hl hc => exact .sl off len sz cap (he _ _ h) hl hc
  | sl0 off off' sz h => exact .sl0 off off' sz (he _ _ h)
  | mapN => exact .mapN
  | map h => exact .map (he _ _ h)
  | fnN => exact .fnN
  | fn f h1 h2 h3 h4 i2 i4 => exact .fn f h1 i2 h3 i4
  | yld h => exact .yld (he _ _ h)
  | ifN => exact .ifN
  | agg h1 h2 i2 => exact .agg h1 i2
  | tup h1 h2 i2 => exact .tup h1 i2

namespace VRs
variable {ρ ρ' : Nam} {a b c d : List Value} {x y : Value}
theorem mono (he : Ext ρ ρ') (h : VRs ρ a b) : VRs ρ' a b := ⟨h.1, fun i hi => (h.2 i hi).mono he⟩
theorem nil : VRs ρ [] [] := ⟨rfl, fun i hi => by simp at hi⟩
theorem cons (hx : VR ρ x y) (h : VRs ρ a b) : VRs ρ (x :: a) (y :: b) := by
  refine ⟨by simp [h.1], fun i hi => ?_⟩
  cases i with
  | zero => simpa using hx
  | succ i => simpa using h.2 i (by simpa using hi)
theorem inv_nil (h : VRs ρ [] b) : b = [] := List.length_eq_zero_iff.1 h.1.symm
theorem inv_cons (h : VRs ρ (x :: a) b) : ∃ y b', b = y :: b' ∧ VR ρ x y ∧ VRs ρ a b' := by
  cases b with
  | nil => have := h.1; simp at this
  | cons y b' =>
    refine ⟨y, b', rfl, by simpa using h.2 0 (by simp), ⟨by simpa using h.1, fun i hi => ?_⟩⟩
    simpa using h.2 (i + 1) (by simpa using hi)
theorem one (hx : VR ρ x y) : VRs ρ [x] [y] := cons hx nil
theorem append (h : VRs ρ a b) (k : VRs ρ c d) : VRs ρ (a ++ c) (b ++ d) := by
  induction a generalizing b with
  | nil => rw [inv_nil h]; exact k
  | cons x a ih =>
    obtain ⟨y, b', rfl, hx, h'⟩ := inv_cons h
    exact cons hx (ih h')
theorem drop (h : VRs ρ a b) : ∀ (n : Nat), VRs ρ (a.drop n) (b.drop n) := by
  intro n
  induction n generalizing a b with
  | zero => exact h
  | succ n ih =>
    cases a with
    | nil => rw [inv_nil h]; exact nil
    | cons x a =>
      obtain ⟨y, b', rfl, hx, h'⟩ := inv_cons h
      exact ih h'
theorem take (h : VRs ρ a b) : ∀ (n : Nat), VRs ρ (a.take n) (b.take n) := by
  intro n
  induction n generalizing a b with
  | zero => exact nil
  | succ n ih =>
    cases a with
    | nil => rw [inv_nil h]; exact nil
    | cons x a =>
      obtain ⟨y, b', rfl, hx, h'⟩ := inv_cons h
      exact cons hx (ih h')
theorem getE (h : VRs ρ a b) {i : Nat} {x : Value} (hx : a[i]? = some x) : ∃ y, b[i]? = some y ∧ VR ρ x y := by
  have hi : i < a.length := (List.getElem?_eq_some_iff.1 hx).1
  have hj : i < b.length := by rw [← h.1]; exact hi
  refine ⟨b[i], List.getElem?_eq_getElem hj, ?_⟩
  have := h.2 i hi
  rw [List.getD_eq_getElem?_getD, hx, List.getD_eq_getElem?_getD, List.getElem?_eq_getElem hj] at this
  exact this
theorem head (h : VRs ρ a b) {x : Value} (hx : a.head? = some x) : ∃ y, b.head? = some y ∧ VR ρ x y := by
  cases a with
  | nil => cases hx
  | cons z a =>
    obtain ⟨y, b', rfl, hy, _⟩ := inv_cons h
    simp only [List.head?_cons, Option.some.injEq] at hx
    subst hx
    exact ⟨y, rfl, hy⟩
theorem agg (h : VRs ρ a b) : VR ρ (.agg ⟨a⟩) (.agg ⟨b⟩) := .agg h.1 h.2
theorem tup (h : VRs ρ a b) : VR ρ (.tuple ⟨a⟩) (.tuple ⟨b⟩) := .tup h.1 h.2
theorem fn (f : FuncId) (h : VRs ρ a b) (k : VRs ρ c d) : VR ρ (.func (.func f) ⟨a⟩ ⟨c⟩) (.func (.func f) ⟨b⟩ ⟨d⟩) := .fn f h.1 h.2 k.1 k.2
theorem over : ∀ {a b c d : List Value} (k : Nat), VRs ρ a b → VRs ρ c d → VRs ρ (over a k c) (over b k d)
  | [], b, c, d, k, h, _ => by rw [inv_nil h]; cases k <;> cases c <;> cases d <;> exact nil
  | x :: a, b, c, d, 0, h, hc => by
    obtain ⟨y, b', rfl, hx, h'⟩ := inv_cons h
    cases c with
    | nil => rw [inv_nil hc]; exact cons hx h'
    | cons z c =>
      obtain ⟨u, d', rfl, hz, hc'⟩ := inv_cons hc
      exact cons hz (over 0 h' hc')
  | x :: a, b, c, d, k + 1, h, hc => by
    obtain ⟨y, b', rfl, hx, h'⟩ := inv_cons h
    have : VRs ρ (IM.over a k c) (IM.over b' k d) := over k h' hc
    cases c <;> cases d <;> exact cons hx this
end VRs

theorem VR.undef {ρ : Nam} : VR ρ undef undef := VRs.nil.tup

theorem gnd1_vr {ρ : Nam} {v : Value} (h : gnd1 v = true) : VR ρ v v := by
  unfold gnd1 at h
  split at h
  · exact .bool _
  · exact .int _ _
  · exact .str _
  · exact .ptrN
  · simp only [Bool.and_eq_true, Nat.beq_eq] at h
    rw [h.1, h.2]
    exact .slN
  · exact .mapN
  · exact .fnN
  · exact .ifN
  · cases h
theorem gnd1_vrs {ρ : Nam} : ∀ {l : List Value}, (∀ v ∈ l, gnd1 v = true) → VRs ρ l l
  | [], _ => .nil
  | v :: l, h => .cons (gnd1_vr (h v (by simp))) (gnd1_vrs fun u hu => h u (by simp [hu]))
theorem gnd_vr {ρ : Nam} {v : Value} (h : gnd v = true) : VR ρ v v := by
  unfold gnd at h
  split at h
  · rename_i cs
    obtain ⟨l⟩ := cs
    exact (gnd1_vrs fun v hv => (List.all_eq_true.1 h) v hv).agg
  · rename_i cs
    obtain ⟨l⟩ := cs
    exact (gnd1_vrs fun v hv => (List.all_eq_true.1 h) v hv).tup
  · exact gnd1_vr h

theorem VR.one1 {ρ : Nam} {v u : Value} (h : VR ρ v u) : u.oneCell' = IM.one1 v := by cases h <;> rfl
theorem VRs.ones {ρ : Nam} {a b : List Value} (h : VRs ρ a b) (k : IM.ones a = true) : ∀ v ∈ b, v.oneCell' = true := by
  induction a generalizing b with
  | nil => rw [inv_nil h]; simp
  | cons x a ih =>
    obtain ⟨y, b', rfl, hx, h'⟩ := inv_cons h
    unfold IM.ones at k
    simp only [List.all_cons, Bool.and_eq_true] at k
    intro v hv
    rcases List.mem_cons.1 hv with rfl | hv
    · rw [hx.one1]; exact k.1
    · exact ih h' k.2 v hv
theorem VR.cells {ρ : Nam} {v u : Value} (h : VR ρ v u) : VRs ρ (cellsOf v) u.cells.toList := by
  cases h with
  | agg h1 h2 => exact ⟨h1, h2⟩
  | bool b => exact .one (.bool b)
  | int k n => exact .one (.int k n)
  | str s => exact .one (.str s)
  | ptrN => exact .one .ptrN
  | ptr off h => exact .one (.ptr off h)
  | slN => exact .one .slN
  | sl off len sz cap h hl hc => exact .one (.sl off len sz cap h hl hc)
  | sl0 off off' sz h => exact .one (.sl0 off off' sz h)
  | mapN => exact .one .mapN
  | map h => exact .one (.map h)
  | fnN => exact .one .fnN
  | fn f h1 h2 h3 h4 => exact .one (.fn f h1 h2 h3 h4)
  | yld h => exact .one (.yld h)
  | ifN => exact .one .ifN
  | tup h1 h2 => exact .one (.tup h1 h2)

/-- The temporaries. -/
def TR (ρ : Nam) (nt : Nat) (tm : Tr Value) (ts : Array Value) : Prop := ts.size = nt ∧ ∀ t v, tm.get t = some v → ∃ u, ts[t]? = some u ∧ VR ρ v u
theorem TR.mono {ρ ρ' : Nam} {nt : Nat} {tm : Tr Value} {ts : Array Value} (he : Ext ρ ρ') (h : TR ρ nt tm ts) : TR ρ' nt tm ts :=
  ⟨h.1, fun t v e => let ⟨u, h1, h2⟩ := h.2 t v e; ⟨u, h1, h2.mono he⟩⟩

/-- The jump that a round leaves. -/
def pcode : Ex → Option Code
  | .normal => none
  | .exit id => some (.exit id)
  | .ret => some .ret

structure ER (ρ : Nam) (j : Nat) (e : Value × Value) (x : MapEntry) : Prop where
  key : VR ρ e.1 x.key
  val : VR ρ e.2 x.val
  born : x.born = j

inductive MRs (ρ : Nam) : Nat → List (Value × Value) → List MapEntry → Prop
  | nil (j : Nat) : MRs ρ j [] []
  | cons {j : Nat} {e : Value × Value} {x : MapEntry} {es : List (Value × Value)} {xs : List MapEntry} (h : ER ρ j e x) (k : MRs ρ (j + 1) es xs) : MRs ρ j (e :: es) (x :: xs)

structure LR (ρ : Nam) (s : LoopR) (L : Loop) : Prop where
  params : L.params = ⟨s.ps⟩
  assign : L.assign = s.assign
  body : L.body = s.body
  pend : L.pending = pcode s.pend
  free : s.busy = false → L.state ≠ .busy
  ready : s.busy = false → isNormal s.pend = true → L.state = .ready
  tmps : TR ρ s.nt s.tm L.tmps
  nr : noRange s.assign = true ∧ noRange s.body = true

/-- What a name's block holds. -/
def OR (ρ : Nam) (o : AObj) (s : Nat) (c : Option Obj) : Prop :=
  match o with
  | .cells cs t => ∃ (C : Array Value) (t' : TypeId), c = some (.cells C t' (0, 0)) ∧ C.size = s ∧ cs.length ≤ s ∧ VRs ρ cs (C.toList.take cs.length)
  | .map es => ∃ E : List MapEntry, c = some (.map ⟨E⟩ es.length) ∧ MRs ρ 0 es E
  | .iter m k seen => ∃ b s', ρ m = some (b, s') ∧ c = some (.mapIter (some b) k ⟨seen.reverse⟩ k)
  | .loop nt tm ps assign body pend busy => ∃ L, c = some (.loop L) ∧ LR ρ ⟨nt, tm, ps, assign, body, pend, busy⟩ L

theorem MRs.mono {ρ ρ' : Nam} (he : Ext ρ ρ') {j : Nat} {es : List (Value × Value)} {E : List MapEntry} (h : MRs ρ j es E) : MRs ρ' j es E := by
  induction h with
  | nil j => exact .nil j
  | cons h k ih => exact .cons ⟨h.key.mono he, h.val.mono he, h.born⟩ ih

theorem OR.mono {ρ ρ' : Nam} (he : Ext ρ ρ') {o : AObj} {s : Nat} {c : Option Obj} (h : OR ρ o s c) : OR ρ' o s c := by
  cases o with
  | cells cs t => obtain ⟨C, t', h1, h2, h3, h4⟩ := h; exact ⟨C, t', h1, h2, h3, h4.mono he⟩
  | map es =>
    obtain ⟨E, h1, h2⟩ := h
    exact ⟨E, h1, h2.mono he⟩
  | iter m k seen => obtain ⟨b, s', h1, h2⟩ := h; exact ⟨b, s', he _ _ h1, h2⟩
  | loop nt tm ps assign body pend busy =>
    obtain ⟨L, h1, h2⟩ := h
    exact ⟨L, h1, h2.params, h2.assign, h2.body, h2.pend, h2.free, h2.ready, h2.tmps.mono he, h2.nr⟩

/-- The memory of the one lies in the memory of the other: all beyond B; what lay below is as it was; the blocks Ds stand aside. -/
structure HR (B : Nat) (w0 : World) (Ds : List Nat) (ρ : Nam) (h : Tr AObj) (w : World) : Prop where
  obj : ∀ i o, h.get i = some o → ∃ b s, ρ i = some (b, s) ∧ OR ρ o s w.heap[b]?
  inj : ∀ i j b s s', (h.get i).isSome = true → (h.get j).isSome = true → ρ i = some (b, s) → ρ j = some (b, s') → i = j
  rng : ∀ i b s, ρ i = some (b, s) → B ≤ b ∧ b < w.heap.size ∧ b ∉ Ds
  bel : Below B w0 w
  ds : ∀ D ∈ Ds, w.heap[D]? = some (.deferred (some [])) ∧ B ≤ D

def Fresh (ρ : Nam) (n N : Nat) : Prop := ∀ i, n ≤ i → i < N → ρ i = none
def Dom (ρ ρ' : Nam) (n n' : Nat) : Prop := ∀ i, ρ' i ≠ none → ρ i ≠ none ∨ (n ≤ i ∧ i < n')
theorem Dom.refl (ρ : Nam) (n : Nat) : Dom ρ ρ n n := fun i h => .inl h
theorem Dom.trans {a b c : Nam} {n m k : Nat} (h : Dom a b n m) (hk : Dom b c m k) (h1 : n ≤ m) (h2 : m ≤ k) : Dom a c n k := fun i hi => by
  rcases hk i hi with h' | h'
  · rcases h i h' with h'' | h''
    · exact .inl h''
    · exact .inr ⟨h''.1, by omega⟩
  · exact .inr ⟨by omega, h'.2⟩
theorem Fresh.on {ρ ρ' : Nam} {n m N : Nat} (h : Fresh ρ n N) (hd : Dom ρ ρ' n m) (hn : n ≤ m) : Fresh ρ' m N := fun i h1 h2 => by
  cases e : ρ' i with
  | none => rfl
  | some x =>
    rcases hd i (by rw [e]; simp) with h' | h'
    · exact absurd (h i (by omega) h2) h'
    · omega
theorem Fresh.less {ρ : Nam} {n N N' : Nat} (h : Fresh ρ n N) (hN : N' ≤ N) : Fresh ρ n N' := fun i h1 h2 => h i h1 (by omega)

def upd (ρ : Nam) (n : Nat) (x : Nat × Nat) : Nam := fun i => if i = n then some x else ρ i
theorem upd_self (ρ : Nam) (n : Nat) (x : Nat × Nat) : upd ρ n x n = some x := if_pos rfl
theorem upd_ext {ρ : Nam} {n : Nat} (x : Nat × Nat) (h : ρ n = none) : Ext ρ (upd ρ n x) := fun i y e => by
  unfold upd
  by_cases hi : i = n
  · subst hi; rw [h] at e; cases e
  · rw [if_neg hi]; exact e
theorem upd_dom (ρ : Nam) (n : Nat) (x : Nat × Nat) : Dom ρ (upd ρ n x) n (n + 1) := fun i hi => by
  unfold upd at hi
  by_cases e : i = n
  · exact .inr ⟨by omega, by omega⟩
  · rw [if_neg e] at hi; exact .inl hi

namespace HR
variable {B : Nat} {w0 : World} {Ds : List Nat} {ρ : Nam} {h g : Tr AObj} {w w' : World}
theorem sub (H : HR B w0 Ds ρ h w) (hs : SubT g h) : HR B w0 Ds ρ g w :=
  ⟨fun i o e => H.obj i o (hs i o e), fun i j b s s' h1 h2 => by
    obtain ⟨o, e⟩ := Option.isSome_iff_exists.1 h1
    obtain ⟨o', e'⟩ := Option.isSome_iff_exists.1 h2
    exact H.inj i j b s s' (by rw [hs i o e]; rfl) (by rw [hs j o' e']; rfl), H.rng, H.bel, H.ds⟩
theorem same (H : HR B w0 Ds ρ h w) (hs : ∀ k, g.get k = h.get k) : HR B w0 Ds ρ g w := H.sub fun k o e => by rw [← hs k]; exact e

theorem blk_keep {row : Option Nat} (hg : w.grownBy w' row) {b : Nat} {o : Obj} (hb : w.heap[b]? = some o) (hn : some b ≠ row) : w'.heap[b]? = some o :=
  (hg.block b (Array.getElem?_eq_some_iff.1 hb).1 hn).trans hb

theorem below_of {row : Option Nat} (H : Below B w0 w) (hg : w.grownBy w' row) (hr : ∀ b, row = some b → B ≤ b) (hB : B ≤ w.heap.size) : Below B w0 w' :=
  H.trans ⟨hg.os, hg.tape, hg.output, hg.size, fun k hk => hg.block k (by omega) (fun e => by have := hr k e.symm; omega)⟩

/-- The draws. -/
theorem drew (H : HR B w0 Ds ρ h w) (n : Nat) : HR B w0 Ds ρ h { w with drawn := n } := ⟨H.obj, H.inj, H.rng, ⟨H.bel.os, H.bel.tape, H.bel.output, H.bel.size, H.bel.block⟩, H.ds⟩

/-- One block of a name is written. -/
theorem write (H : HR B w0 Ds ρ h w) (hB : B ≤ w0.heap.size) {i b s : Nat} {o : AObj} (o' : AObj) (hi : h.get i = some o) (hρ : ρ i = some (b, s)) (hl : i < 65536) (hg : w.grownBy w' (some b)) (hO : OR ρ o' s w'.heap[b]?) :
    HR B w0 Ds ρ (h.set 20 i (some o')) w' := by
  have hr := H.rng i b s hρ
  have hBw : B ≤ w.heap.size := Nat.le_trans hB H.bel.size
  refine ⟨fun j p hj => ?_, fun j k c t t' h1 h2 e1 e2 => ?_, fun j c t e => ?_, below_of H.bel hg (fun c e => by cases e; exact hr.1) hBw, fun D hD => ?_⟩
  · rw [Tr.get_set20 _ _ _ _ hl] at hj
    by_cases e : j = i
    · subst e
      rw [if_pos rfl] at hj
      cases hj
      exact ⟨b, s, hρ, hO⟩
    · rw [if_neg e] at hj
      obtain ⟨c, t, h1, h2⟩ := H.obj j p hj
      have hne : c ≠ b := fun e1 => e (H.inj j i c t s (by rw [hj]; rfl) (by rw [hi]; rfl) h1 (by rw [e1]; exact hρ))
      refine ⟨c, t, h1, ?_⟩
      rw [hg.block c (H.rng j c t h1).2.1 (fun e1 => hne (by injection e1))]
      exact h2
  · have live : ∀ j, ((h.set 20 i (some o')).get j).isSome = true → (h.get j).isSome = true := fun j hj => by
      rw [Tr.get_set20 _ _ _ _ hl] at hj
      by_cases e : j = i
      · rw [e, hi]; rfl
      · rw [if_neg e] at hj; exact hj
    exact H.inj j k c t t' (live j h1) (live k h2) e1 e2
  · have := H.rng j c t e
    exact ⟨this.1, Nat.lt_of_lt_of_le this.2.1 hg.size, this.2.2⟩
  · have := H.ds D hD
    refine ⟨blk_keep hg this.1 (fun e => hr.2.2 ?_), this.2⟩
    injection e with e
    rw [← e]
    exact hD

/-- A new block, with a new name. -/
theorem make (H : HR B w0 Ds ρ h w) (hB : B ≤ w0.heap.size) {n b s : Nat} (o : AObj) (hn : h.get n = none) (hρ : ρ n = none) (hl : n < 65536) (hg : w.grownBy w' none) (hb : w.heap.size ≤ b) (hb2 : b < w'.heap.size)
    (hO : OR (upd ρ n (b, s)) o s w'.heap[b]?) : HR B w0 Ds (upd ρ n (b, s)) (h.set 20 n (some o)) w' := by
  have hBw : B ≤ w.heap.size := Nat.le_trans hB H.bel.size
  have hx := upd_ext (b, s) hρ
  have old : ∀ j c t, upd ρ n (b, s) j = some (c, t) → (j = n ∧ c = b ∧ t = s) ∨ (j ≠ n ∧ ρ j = some (c, t)) := fun j c t e => by
    unfold upd at e
    by_cases hj : j = n
    · rw [if_pos hj] at e
      cases e
      exact .inl ⟨hj, rfl, rfl⟩
    · rw [if_neg hj] at e; exact .inr ⟨hj, e⟩
  refine ⟨fun j p hj => ?_, fun j k c t t' h1 h2 e1 e2 => ?_, fun j c t e => ?_, below_of H.bel hg (fun c e => by cases e) hBw, fun D hD => ?_⟩
  · rw [Tr.get_set20 _ _ _ _ hl] at hj
    by_cases e : j = n
    · subst e
      rw [if_pos rfl] at hj
      cases hj
      exact ⟨b, s, upd_self _ _ _, hO⟩
    · rw [if_neg e] at hj
      obtain ⟨c, t, h1, h2⟩ := H.obj j p hj
      refine ⟨c, t, hx _ _ h1, ?_⟩
      rw [hg.block c (H.rng j c t h1).2.1 (fun e1 => by cases e1)]
      exact h2.mono hx
  · rcases old j c t e1 with ⟨rfl, rfl, _⟩ | ⟨hj, d1⟩
    · rcases old k c t' e2 with ⟨rfl, _, _⟩ | ⟨hk, d2⟩
      · rfl
      · have := (H.rng k c t' d2).2.1; omega
    · rcases old k c t' e2 with ⟨rfl, rfl, _⟩ | ⟨hk, d2⟩
      · have := (H.rng j c t d1).2.1; omega
      · rw [Tr.get_set20 _ _ _ _ hl, if_neg hj] at h1
        rw [Tr.get_set20 _ _ _ _ hl, if_neg hk] at h2
        exact H.inj j k c t t' h1 h2 d1 d2
  · rcases old j c t e with ⟨rfl, rfl, _⟩ | ⟨_, d⟩
    · refine ⟨by omega, hb2, fun hD => ?_⟩
      have := (Array.getElem?_eq_some_iff.1 (H.ds _ hD).1).1
      omega
    · have := H.rng j c t d
      exact ⟨this.1, Nat.lt_of_lt_of_le this.2.1 hg.size, this.2.2⟩
  · have := H.ds D hD
    exact ⟨blk_keep hg this.1 (fun e => by cases e), this.2⟩

/-- A name goes over to another one, its block being written. -/
theorem over (H : HR B w0 Ds ρ h w) (hB : B ≤ w0.heap.size) {i n b s : Nat} {o : AObj} (o' : AObj) (hi : h.get i = some o) (hρi : ρ i = some (b, s)) (hl : i < 65536) (hn : (h.set 20 i none).get n = none) (hρ : ρ n = none) (hln : n < 65536)
    (hg : w.grownBy w' (some b)) (hO : OR (upd ρ n (b, s)) o' s w'.heap[b]?) : HR B w0 Ds (upd ρ n (b, s)) ((h.set 20 i none).set 20 n (some o')) w' := by
  have hr := H.rng i b s hρi
  have hBw : B ≤ w.heap.size := Nat.le_trans hB H.bel.size
  have hx := upd_ext (b, s) hρ
  have old : ∀ j c t, upd ρ n (b, s) j = some (c, t) → (j = n ∧ c = b ∧ t = s) ∨ (j ≠ n ∧ ρ j = some (c, t)) := fun j c t e => by
    unfold upd at e
    by_cases hj : j = n
    · rw [if_pos hj] at e
      cases e
      exact .inl ⟨hj, rfl, rfl⟩
    · rw [if_neg hj] at e; exact .inr ⟨hj, e⟩
  have live : ∀ j p, j ≠ n → ((h.set 20 i none).set 20 n (some o')).get j = some p → h.get j = some p ∧ j ≠ i := fun j p hj e => by
    rw [Tr.get_set20 _ _ _ _ hln, if_neg hj, Tr.get_set20 _ _ _ _ hl] at e
    by_cases c : j = i
    · rw [if_pos c] at e; cases e
    · rw [if_neg c] at e; exact ⟨e, c⟩
  refine ⟨fun j p hj => ?_, fun j k c t t' h1 h2 e1 e2 => ?_, fun j c t e => ?_, below_of H.bel hg (fun c e => by cases e; exact hr.1) hBw, fun D hD => ?_⟩
  · by_cases e : j = n
    · subst e
      rw [Tr.get_set20 _ _ _ _ hln, if_pos rfl] at hj
      cases hj
      exact ⟨b, s, upd_self _ _ _, hO⟩
    · obtain ⟨hj', hji⟩ := live j p e hj
      obtain ⟨c, t, h1, h2⟩ := H.obj j p hj'
      have hne : c ≠ b := fun e1 => hji (H.inj j i c t s (by rw [hj']; rfl) (by rw [hi]; rfl) h1 (by rw [e1]; exact hρi))
      refine ⟨c, t, hx _ _ h1, ?_⟩
      rw [hg.block c (H.rng j c t h1).2.1 (fun e1 => hne (by injection e1))]
      exact h2.mono hx
  · obtain ⟨p, hp⟩ := Option.isSome_iff_exists.1 h1
    obtain ⟨q, hq⟩ := Option.isSome_iff_exists.1 h2
    rcases old j c t e1 with ⟨rfl, rfl, _⟩ | ⟨hj, d1⟩
    · rcases old k c t' e2 with ⟨rfl, _, _⟩ | ⟨hk, d2⟩
      · rfl
      · obtain ⟨hq', hki⟩ := live k q hk hq
        exact absurd (H.inj k i c t' s (by rw [hq']; rfl) (by rw [hi]; rfl) d2 hρi) hki
    · obtain ⟨hp', hji⟩ := live j p hj hp
      rcases old k c t' e2 with ⟨rfl, rfl, _⟩ | ⟨hk, d2⟩
      · exact absurd (H.inj j i c t s (by rw [hp']; rfl) (by rw [hi]; rfl) d1 hρi) hji
      · obtain ⟨hq', _⟩ := live k q hk hq
        exact H.inj j k c t t' (by rw [hp']; rfl) (by rw [hq']; rfl) d1 d2
  · rcases old j c t e with ⟨rfl, rfl, _⟩ | ⟨_, d⟩
    · exact ⟨hr.1, Nat.lt_of_lt_of_le hr.2.1 hg.size, hr.2.2⟩
    · have := H.rng j c t d
      exact ⟨this.1, Nat.lt_of_lt_of_le this.2.1 hg.size, this.2.2⟩
  · have := H.ds D hD
    refine ⟨blk_keep hg this.1 (fun e => hr.2.2 ?_), this.2⟩
    injection e with e
    rw [← e]
    exact hD
end HR

end Go.IM
