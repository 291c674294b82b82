/- The leaner machine and the model: types, loads, stores, new blocks. -/
import Derived.Test.YtamhdelomchleaaGreatI4
set_option linter.unusedVariables false
set_option linter.unusedSimpArgs false
namespace Go.IM
open Go.RowKit

def isRowD : TypeDesc → Bool
  | .struct _ => true
  | .array _ _ => true
  | _ => false
def SzOK (P : Program) (t sz : Nat) : Prop := ∃ I, P.info? t = some I ∧ I.size = sz
def AggOK (P : Program) (t : Nat) (b : Bool) : Prop := ∃ d, P.underlying t = some d ∧ isRowD d = b

def KOK (P : Program) (t : Nat) : K → Prop
  | .int k => P.underlying t = some (.int k)
  | .slice e sz by_ => P.underlying t = some (.slice e) ∧ ∃ I z, P.info? e = some I ∧ I.size = sz ∧ I.bytes = by_ ∧ I.zero = some z ∧ z.cells.size = sz
  | .array n e sz agg => P.underlying t = some (.array n e) ∧ SzOK P e sz ∧ AggOK P e agg
  | .map k e => P.underlying t = some (.map k e) ∧ ∃ kk, P.underlying k = some (.int kk)
  | .struct fs => ∃ F : Array Field, P.underlying t = some (.struct F) ∧ F.size = fs.length ∧ ∀ (j : Nat) (p : Nat × Nat × Bool), fs[j]? = some p → ∃ f : Field, F[j]? = some f ∧ p.1 = f.offset ∧ SzOK P f.type p.2.1 ∧ AggOK P f.type p.2.2
  | .string => P.underlying t = some .string
  | .bool => P.underlying t = some .bool
  | .ptr e => P.underlying t = some (.pointer e)
  | .func => ∃ ps rs v, P.underlying t = some (.func ps rs v)
  | _ => True

structure TyOK (P : Program) (t : Nat) (i : TI) : Prop where
  inf : ∃ I, P.info? t = some I ∧ I.size = i.size ∧ I.zero = some (zeroOf i)
  zc : (zeroOf i).cells.toList = i.zero
  zg : ∀ v ∈ i.zero, gnd1 v = true
  agg : AggOK P t i.agg
  k : KOK P t i.k

section
variable {P : Program} {w : World}
theorem SzOK.run {t sz : Nat} (h : SzOK P t sz) (w : World) : (sizeOf t).run P w = .ok sz w := by
  obtain ⟨I, h1, h2⟩ := h
  simp [sizeOf, typeInfo, h1, h2]
theorem AggOK.run {t : Nat} {b : Bool} (h : AggOK P t b) (w : World) : (isAgg t).run P w = .ok b w := by
  obtain ⟨d, h1, h2⟩ := h
  unfold isAgg
  rw [Sem.run_bind, run_underlying h1, Result.andThen_ok]
  cases d <;> simp only [isRowD] at h2 <;> subst h2 <;> rfl
theorem TyOK.sz {t : Nat} {i : TI} (h : TyOK P t i) : SzOK P t i.size := by
  obtain ⟨I, h1, h2, _⟩ := h.inf
  exact ⟨I, h1, h2⟩
theorem TyOK.zero {t : Nat} {i : TI} (h : TyOK P t i) (w : World) : (zeroValue t).run P w = .ok (zeroOf i) w := by
  obtain ⟨I, h1, h2, h3⟩ := h.inf
  simp [zeroValue, typeInfo, h1, h3]
theorem TyOK.zvs {t : Nat} {i : TI} (h : TyOK P t i) {ρ : Nam} : VRs ρ i.zero (zeroOf i).cells.toList := by
  rw [h.zc]
  exact gnd1_vrs h.zg
theorem TyOK.zvr {t : Nat} {i : TI} (h : TyOK P t i) {ρ : Nam} : VR ρ (zeroOf i) (zeroOf i) := by
  have hz := h.zc
  have hg := h.zg
  unfold zeroOf at hz ⊢
  cases ha : i.agg with
  | true =>
    simp only [cond_true]
    exact (gnd1_vrs hg).agg
  | false =>
    rw [ha] at hz
    simp only [cond_false] at hz ⊢
    cases hl : i.zero with
    | nil => rw [hl] at hz; exact VR.undef
    | cons z l => exact gnd1_vr (hg z (by rw [hl]; simp))

/-! ### Cells -/
theorem OR.cells {ρ : Nam} {cs : List Value} {t : TypeId} {s : Nat} {c : Option Obj} (h : OR ρ (.cells cs t) s c) :
    ∃ (C : Array Value) (t' : TypeId), c = some (.cells C t' (0, 0)) ∧ C.size = s ∧ cs.length ≤ s ∧ VRs ρ cs (C.toList.take cs.length) := h

theorem MW.cellsM {b : Nat} {h : Tr AObj} {n : Nat} {Q : List Value × TypeId → Tr AObj → Nat → Prop} (hm : MW (cellsM b) h n Q) : ∃ cs t, h.get b = some (.cells cs t) ∧ Q (cs, t) h n := by
  unfold IM.cellsM at hm
  rw [MW.bind, MW.rd] at hm
  obtain ⟨o, ho, hm⟩ := hm
  cases o with
  | cells cs t => exact ⟨cs, t, ho, hm⟩
  | map _ => exact hm.elim
  | iter _ _ _ => exact hm.elim
  | loop _ _ _ _ _ _ _ => exact hm.elim
theorem MW.mapM {b : Nat} {h : Tr AObj} {n : Nat} {Q : List (Value × Value) → Tr AObj → Nat → Prop} (hm : MW (mapM b) h n Q) : ∃ es, h.get b = some (.map es) ∧ Q es h n := by
  unfold IM.mapM at hm
  rw [MW.bind, MW.rd] at hm
  obtain ⟨o, ho, hm⟩ := hm
  cases o with
  | map es => exact ⟨es, ho, hm⟩
  | cells _ _ => exact hm.elim
  | iter _ _ _ => exact hm.elim
  | loop _ _ _ _ _ _ _ => exact hm.elim

/-- Some cells of a row are read. -/
theorem run_cells {b off k : Nat} {C : Array Value} {t : TypeId} (hb : w.heap[b]? = some (.cells C t (0, 0))) (hk : off + k ≤ C.size) :
    (loadCells ⟨b, off, none⟩ k).run P w = .ok ⟨(C.toList.drop off).take k⟩ w := by
  have hl : ((C.toList.drop off).take k).length = k := by simp; omega
  have := run_loadCells_list (P := P) w ⟨b, off, none⟩ ((C.toList.drop off).take k) (fun j v hj => by
    have hjk : j < k := by have := (List.getElem?_eq_some_iff.1 hj).1; omega
    rw [List.getElem?_take, if_pos hjk, List.getElem?_drop] at hj
    have hadd : (⟨b, off, none⟩ : Addr).add j = ⟨b, off + j, none⟩ := by unfold Addr.add; split <;> simp_all
    rw [hadd]
    simp only [World.cell?, hb]
    simpa using hj)
  rw [hl] at this
  exact this

theorem take_drop_take {α : Type} (l : List α) (off k n : Nat) (h : off + k ≤ n) : ((l.take n).drop off).take k = (l.drop off).take k := by
  rw [List.drop_take, List.take_take, Nat.min_eq_left (by omega)]

/-- A part of a row that is known. -/
theorem vrs_part {ρ : Nam} {cs : List Value} {C : Array Value} (h : VRs ρ cs (C.toList.take cs.length)) {off k : Nat} (hk : off + k ≤ cs.length) : VRs ρ ((cs.drop off).take k) ((C.toList.drop off).take k) := by
  have := (h.drop off).take k
  rw [take_drop_take _ _ _ _ hk] at this
  exact this

theorem part_agg {cs : List Value} {off sz : Nat} {v : Value} (h : part true cs off sz = some v) : off + sz ≤ cs.length ∧ v = .agg ⟨(cs.drop off).take sz⟩ := by
  unfold part at h
  simp only [cond_true] at h
  cases hb : Nat.ble (off + sz) cs.length with
  | false => rw [hb] at h; cases h
  | true =>
    rw [hb] at h
    simp only [cond_true, Option.some.injEq] at h
    exact ⟨Nat.le_of_ble_eq_true hb, h.symm⟩
theorem part_one {cs : List Value} {off sz : Nat} {v : Value} (h : part false cs off sz = some v) : cs[off]? = some v := by
  unfold part at h
  simp only [cond_false, List.head?_drop] at h
  exact h

theorem load_ok {B : Nat} {w0 : World} {Ds : List Nat} {ρ : Nam} {h : Tr AObj} {n : Nat} {t : TypeId} {i : TI} {a u : Value} {Q : Value → Tr AObj → Nat → Prop}
    (hm : MW (loadM i a) h n Q) (hT : TyOK P t i) (H : HR B w0 Ds ρ h w) (ha : VR ρ a u) : ∃ v c p, Q v h n ∧ VR ρ v c ∧ u = .pointer (some p) ∧ (loadVar t p).run P w = .ok c w := by
  unfold loadM at hm
  split at hm
  · rename_i b off
    rw [MW.bind] at hm
    obtain ⟨cs, t', hb, hm⟩ := MW.cellsM hm
    rw [MW.opt] at hm
    obtain ⟨v, hv, hm⟩ := hm
    cases ha with
    | @ptr _ b' s _ hρ =>
      obtain ⟨b2, s2, hρ2, hO⟩ := H.obj b _ hb
      rw [hρ] at hρ2
      cases hρ2
      obtain ⟨C, tc, hC, hs, hl, hr⟩ := OR.cells hO
      refine ⟨v, ?_⟩
      cases hag : i.agg with
      | true =>
        rw [hag] at hv
        obtain ⟨hk, rfl⟩ := part_agg hv
        have hk : off + i.size ≤ cs.length := hk
        refine ⟨.agg ⟨(C.toList.drop off).take i.size⟩, _, hm, (vrs_part hr hk).agg, rfl, ?_⟩
        have h1 := hT.agg
        rw [hag] at h1
        unfold loadVar
        rw [Sem.run_bind, h1.run, Result.andThen_ok]
        simp only [if_true, Sem.run_bind, hT.sz.run, Result.andThen_ok, run_cells hC (show off + i.size ≤ C.size by omega), Sem.run_pure]
      | false =>
        rw [hag] at hv
        have hx : cs[off]? = some v := part_one hv
        have hoff : off < cs.length := (List.getElem?_eq_some_iff.1 hx).1
        obtain ⟨y, hy, hxy⟩ := hr.getE hx
        rw [List.getElem?_take, if_pos hoff] at hy
        refine ⟨y, _, hm, hxy, rfl, ?_⟩
        have h1 := hT.agg
        rw [hag] at h1
        unfold loadVar
        rw [Sem.run_bind, h1.run, Result.andThen_ok]
        have hc : w.cell? ⟨b', off, none⟩ = some y := by
          simp only [World.cell?, hC]
          simpa using hy
        simp [load, Sem.run, hc]
  · exact hm.elim

theorem over_eq : ∀ (a : List Value) (off : Nat) (c : List Value), off + c.length ≤ a.length → over a off c = a.take off ++ c ++ a.drop (off + c.length)
  | [], off, c, h => by
    simp only [List.length_nil] at h
    have h1 : c = [] := List.length_eq_zero_iff.1 (by omega)
    subst h1
    cases off <;> simp [over]
  | x :: a, 0, [], h => by simp [over]
  | x :: a, 0, y :: c, h => by
    simp only [over]
    rw [over_eq a 0 c (by simp at h; omega)]
    simp
  | x :: a, off + 1, c, h => by
    have : over (x :: a) (off + 1) c = x :: over a off c := by cases c <;> rfl
    rw [this, over_eq a off c (by simp at h; omega)]
    simp only [List.take_succ_cons, List.cons_append, List.cons.injEq, true_and]
    rw [show off + 1 + c.length = (off + c.length) + 1 by omega, List.drop_succ_cons]

theorem over_len (a : List Value) (off : Nat) (c : List Value) (h : off + c.length ≤ a.length) : (over a off c).length = a.length := by
  rw [over_eq a off c h]; simp; omega

/-- What is put over a row that is known. -/
theorem vrs_over {ρ : Nam} {cs vs us : List Value} {C : Array Value} (h : VRs ρ cs (C.toList.take cs.length)) (hC : cs.length ≤ C.size) {off : Nat} (hk : off + vs.length ≤ cs.length) (hv : VRs ρ vs us) :
    VRs ρ (over cs off vs) ((C.toList.take off ++ us ++ C.toList.drop (off + us.length)).take (over cs off vs).length) := by
  have h1 := VRs.over off h hv
  have hl := hv.1
  have hlen : (C.toList.take cs.length).length = cs.length := by simp; omega
  rw [over_eq (C.toList.take cs.length) off us (by omega)] at h1
  rw [over_len _ _ _ hk]
  have e : (C.toList.take off ++ us ++ C.toList.drop (off + us.length)).take cs.length = (C.toList.take cs.length).take off ++ us ++ (C.toList.take cs.length).drop (off + us.length) := by
    have hA : (C.toList.take off ++ us).length = off + us.length := by simp; omega
    rw [List.take_append, hA, List.take_of_length_le (by omega), List.take_take, Nat.min_eq_left (by omega), List.drop_take]
  rw [e]
  exact h1

theorem grown_setRow (w : World) (g : Nat) (cs : Array Value) : w.grownBy (w.setRow g cs) (some g) :=
  ⟨rfl, rfl, rfl, by simp, fun k _ hne => setRow_other w g k cs (fun e => hne (by rw [e]))⟩

theorem store_ok {B : Nat} {w0 : World} {Ds : List Nat} {ρ : Nam} {h : Tr AObj} {n : Nat} {t : TypeId} {i : TI} {a u v c : Value} {Q : Value → Tr AObj → Nat → Prop}
    (hm : MW (storeM i a v) h n Q) (hT : TyOK P t i) (hB : B ≤ w0.heap.size) (H : HR B w0 Ds ρ h w) (ha : VR ρ a u) (hv : VR ρ v c) :
    ∃ p h' w', u = .pointer (some p) ∧ (storeVar t p c).run P w = .ok () w' ∧ Q undef h' n ∧ HR B w0 Ds ρ h' w' := by
  unfold storeM at hm
  split at hm
  · rename_i b off
    rw [MW.bind] at hm
    obtain ⟨cs, t', hb, hm⟩ := MW.cellsM hm
    rw [MW.grd] at hm
    obtain ⟨hg, hm⟩ := hm
    rw [MW.bind, MW.wr] at hm
    obtain ⟨_, hl, hm⟩ := hm
    simp only [Bool.and_eq_true] at hg
    obtain ⟨⟨g1, g2⟩, g3⟩ := hg
    have g1 := Nat.eq_of_beq_eq_true g1
    have g2 := Nat.le_of_ble_eq_true g2
    cases ha with
    | @ptr _ b' s _ hρ =>
      obtain ⟨b2, s2, hρ2, hO⟩ := H.obj b _ hb
      rw [hρ] at hρ2
      cases hρ2
      obtain ⟨C, tc, hC, hs, hlen, hr⟩ := OR.cells hO
      have hcv := hv.cells
      have hlc : c.cells.toList.length = i.size := by rw [← hcv.1]; exact g1
      have g2 : off + i.size ≤ cs.length := g2
      refine ⟨_, _, w.setRow b' (C.toList.take off ++ c.cells.toList ++ C.toList.drop (off + c.cells.toList.length)).toArray, rfl, ?_, hm, H.write hB _ hb hρ hl (grown_setRow _ _ _) ?_⟩
      · unfold storeVar
        have h0 : c.cells.size = i.size := by simpa using hlc
        have hst := run_storeCells_at P b' off tc c.cells.toList 0 C w hC (by simp only [Nat.add_zero]; omega) (hcv.ones g3)
        simp only [Nat.add_zero] at hst
        simp only [Sem.run_bind, hT.sz.run, Result.andThen_ok, h0, ne_eq, not_true, if_false, Sem.run_pure, hst]
      · have hcs : off + (cellsOf v).length ≤ cs.length := by omega
        refine ⟨_, _, setRow_heap w b' C _ tc _ hC, ?_, ?_, ?_⟩
        · have hz : c.cells.size = i.size := by simpa using hlc
          simp; omega
        · rw [over_len _ _ _ hcs]; exact hlen
        · exact vrs_over hr (by omega) hcs hcv
  · exact hm.elim

/-- What an operation comes to. -/
def Post (B : Nat) (w0 : World) (Ds : List Nat) (ρ : Nam) (n : Nat) (Q : Value → Tr AObj → Nat → Prop) (u : Value) (w' : World) : Prop :=
  ∃ v h' n' ρ', Q v h' n' ∧ n ≤ n' ∧ Ext ρ ρ' ∧ Dom ρ ρ' n n' ∧ HR B w0 Ds ρ' h' w' ∧ VR ρ' v u

theorem Post.here {B : Nat} {w0 : World} {Ds : List Nat} {ρ : Nam} {h : Tr AObj} {n : Nat} {Q : Value → Tr AObj → Nat → Prop} {v u : Value} (hq : Q v h n) (H : HR B w0 Ds ρ h w) (hv : VR ρ v u) : Post B w0 Ds ρ n Q u w :=
  ⟨v, h, n, ρ, hq, Nat.le_refl _, Ext.refl _, Dom.refl _ _, H, hv⟩

theorem grown_alloc (w : World) (o : Obj) : w.grownBy (w.alloc o) none := World.grownBy_alloc w o none

/-- A new row. -/
theorem new_ok {B : Nat} {w0 : World} {Ds : List Nat} {ρ : Nam} {h : Tr AObj} {n : Nat} {o : AObj} {Q : Nat → Tr AObj → Nat → Prop} {N : Nat}
    (hm : MW (M.new o) h n Q) (hN : ∀ v h' n', Q v h' n' → n' ≤ N) (hF : Fresh ρ n N) (hB : B ≤ w0.heap.size) (H : HR B w0 Ds ρ h w) {w' : World} {b s : Nat} (hg : w.grownBy w' none) (hb : w.heap.size ≤ b) (hb2 : b < w'.heap.size)
    (hO : ∀ ρ', Ext ρ ρ' → OR ρ' o s w'.heap[b]?) :
    ∃ h', Q n h' (n + 1) ∧ Ext ρ (upd ρ n (b, s)) ∧ Dom ρ (upd ρ n (b, s)) n (n + 1) ∧ HR B w0 Ds (upd ρ n (b, s)) h' w' := by
  rw [MW.new] at hm
  obtain ⟨h1, h2, hq⟩ := hm
  have hn : ρ n = none := hF n (Nat.le_refl _) (by have := hN _ _ _ hq; omega)
  exact ⟨_, hq, upd_ext _ hn, upd_dom _ _ _, H.make hB _ h1 hn h2 hg hb hb2 (hO _ (upd_ext _ hn))⟩

theorem or_cells {ρ : Nam} {cs : List Value} {t : TypeId} {C : Array Value} (h : VRs ρ cs (C.toList.take cs.length)) (hl : cs.length ≤ C.size) : OR ρ (.cells cs t) C.size (some (.cells C t)) := ⟨C, _, rfl, rfl, hl, h⟩

/-- A new row of just these cells. -/
theorem row_ok {B : Nat} {w0 : World} {Ds : List Nat} {ρ : Nam} {h : Tr AObj} {n : Nat} {cs us : List Value} {t : TypeId} {Q : Nat → Tr AObj → Nat → Prop} {N : Nat}
    (hm : MW (M.new (.cells cs t)) h n Q) (hN : ∀ v h' n', Q v h' n' → n' ≤ N) (hF : Fresh ρ n N) (hB : B ≤ w0.heap.size) (H : HR B w0 Ds ρ h w) (hv : VRs ρ cs us) :
    ∃ h', Q n h' (n + 1) ∧ Ext ρ (upd ρ n (w.heap.size, us.length)) ∧ Dom ρ (upd ρ n (w.heap.size, us.length)) n (n + 1) ∧ HR B w0 Ds (upd ρ n (w.heap.size, us.length)) h' (w.alloc (.cells ⟨us⟩ t)) := by
  refine new_ok hm hN hF hB H (grown_alloc _ _) (Nat.le_refl _) (by simp) (fun ρ' he => ?_)
  rw [heap_alloc_new]
  have := or_cells (C := ⟨us⟩) (t := t) (cs := cs) (ρ := ρ') (by rw [hv.1]; simpa using hv.mono he) (by simp [hv.1])
  simpa using this
end
end Go.IM
