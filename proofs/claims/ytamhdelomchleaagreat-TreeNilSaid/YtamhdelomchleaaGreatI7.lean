/- The leaner machine and the model: slices, appends, new memory. -/
import Derived.Test.YtamhdelomchleaaGreatI6
import Derived.Deep.AppendSrc
import Derived.Laws.Append
set_option linter.unusedVariables false
set_option linter.unusedSimpArgs false
namespace Go.IM
open Go.RowKit

section
variable {P : Program} {w : World} {ρ : Nam}

/-! ### Cutting slices -/
def OVR (ρ : Nam) (l : Option Value) (low : Option Value) : Prop := (l = none ∧ low = none) ∨ ∃ u c, l = some u ∧ low = some c ∧ VR ρ u c

theorem optInt_ok {l low : Option Value} {d k : Nat} (h : OVR ρ l low) (e : optInt l d = some k) : (low = none ∧ k = d) ∨ ∃ kk i, low = some (.int kk i) ∧ 0 ≤ i ∧ k = i.toNat := by
  rcases h with ⟨rfl, rfl⟩ | ⟨u, c, rfl, rfl, hv⟩
  · cases e; exact .inl ⟨rfl, rfl⟩
  · unfold optInt at e
    split at e
    · cases e with | _ => rename_i hn; cases hn
    · rename_i kk i hn
      cases hn
      cases hv
      cases hb : decide (0 ≤ i) with
      | false => rw [hb] at e; cases e
      | true =>
        rw [hb] at e
        simp only [cond_true, Option.some.injEq] at e
        exact .inr ⟨_, i, rfl, by simpa using hb, e.symm⟩
    · cases e

theorem run_bounds {isS : Bool} {n cap l h : Nat} {low high : Option Value} (hl : (low = none ∧ l = 0) ∨ ∃ kk i, low = some (.int kk i) ∧ 0 ≤ i ∧ l = i.toNat) (hh : (high = none ∧ h = n) ∨ ∃ kk i, high = some (.int kk i) ∧ 0 ≤ i ∧ h = i.toNat)
    (h1 : l ≤ h) (h2 : h ≤ cap) : (Instr.sliceBounds isS n cap low high none).run P w = .ok (l, h, cap) w := by
  rcases hl with ⟨rfl, rfl⟩ | ⟨kk, i, rfl, hi0, rfl⟩ <;> rcases hh with ⟨rfl, rfl⟩ | ⟨kk', j, rfl, hj0, rfl⟩
  · simp [Instr.sliceBounds]
  · have : j ≤ (cap : Int) := by omega
    simp [Instr.sliceBounds, Instr.sliceBound, asIntOf, hj0, this]
  · have h6 : ¬ ((h : Int) < i) := by omega
    simp [Instr.sliceBounds, Instr.sliceBound, asIntOf, hi0, h6]
  · have h3 : j ≤ (cap : Int) := by omega
    have h4 : i ≤ j := by omega
    have h5 : i ≤ (j.toNat : Int) := by omega
    have h6 : ¬ (max j 0 < i) := by omega
    simp [Instr.sliceBounds, Instr.sliceBound, asIntOf, hi0, hj0, h3, h4, h5, h6]

theorem cutV_some {sz : Nat} {a : Option Addr} {l h n : Nat} {r : Value} (e : cutV sz a l h n = some r) : l ≤ h ∧ h ≤ n ∧ ((a = none ∧ r = .slice none 0 0) ∨ ∃ b off, a = some ⟨b, off, none⟩ ∧ r = .slice (some ⟨b, off + l * sz, none⟩) (h - l) sz) := by
  unfold cutV at e
  cases hb : (Nat.ble l h && Nat.ble h n) with
  | false => rw [hb] at e; cases e
  | true =>
    rw [hb] at e
    simp only [cond_true] at e
    simp only [Bool.and_eq_true, Nat.ble_eq] at hb
    refine ⟨hb.1, hb.2, ?_⟩
    split at e
    · cases e; exact .inl ⟨rfl, rfl⟩
    · cases e; exact .inr ⟨_, _, rfl, rfl⟩
    · cases e

theorem mul_split {l cap sz : Nat} (h : l ≤ cap) : l * sz + (cap - l) * sz = cap * sz := by
  rw [← Nat.add_mul]; congr 1; omega

theorem slice_ok {B : Nat} {w0 : World} {Ds : List Nat} {h : Tr AObj} {n : Nat} {t : TypeId} {i : TI} {v a : Value} {l hi low high : Option Value} {Q : Value → Tr AObj → Nat → Prop}
    (hm : MW (sliceM i.k v l hi) h n Q) (hT : TyOK P t i) (H : HR B w0 Ds ρ h w) (hv : VR ρ v a) (hl : OVR ρ l low) (hh : OVR ρ hi high) : ∃ u, (Instr.sliceAt t a low high none).run P w = .ok u w ∧ Post B w0 Ds ρ n Q u w := by
  have hk := hT.k
  unfold sliceM at hm
  split at hm
  · rename_i e sz by_ ad len c hi'
    rw [hi'] at hk
    obtain ⟨h1, I, z, h2, h3, _⟩ := hk
    have hs : SzOK P e sz := ⟨I, h2, h3⟩
    rw [MW.grd] at hm
    obtain ⟨hsz, hm⟩ := hm
    rw [MW.opt] at hm
    obtain ⟨r, hr, hm⟩ := hm
    unfold cutO at hr
    split at hr
    · rename_i l' h' e1 e2
      have q1 := optInt_ok hl e1
      have q2 := optInt_ok hh e2
      obtain ⟨c1, c2, hc⟩ := cutV_some hr
      have hrun : ∀ (A : Option Addr) (cap : Nat), len ≤ cap → (Instr.sliceAt t (.slice A len cap) low high none).run P w = .ok (.slice (if cap = l' then A else A.map (·.add (l' * sz))) (h' - l') (cap - l')) w := fun A cap hcap => by
        have hb := run_bounds (P := P) (w := w) (isS := true) (n := len) (cap := cap) q1 q2 c1 (by omega)
        simp [Instr.sliceAt, Instr.slice, run_underlying h1, hb, hs.run]
      cases hv with
      | slN =>
        have hh0 : h' = 0 := by omega
        have hl0 : l' = 0 := by omega
        subst hh0
        subst hl0
        rcases hc with ⟨_, rfl⟩ | ⟨b, off, ha, _⟩
        · refine ⟨_, hrun none 0 (Nat.le_refl _), ?_⟩
          exact Post.here hm H (by simpa using VR.slN)
        · cases ha
      | @sl i' b s off _ _ cap hρ hlc hroom =>
        have hcs : sz = c := (Nat.eq_of_beq_eq_true hsz).symm
        subst hcs
        rcases hc with ⟨ha, _⟩ | ⟨b2, off2, ha, rfl⟩
        · cases ha
        · cases ha
          refine ⟨_, hrun _ cap hlc, Post.here hm H ?_⟩
          by_cases he : cap = l'
          · rw [if_pos he]
            have e3 : h' - l' = 0 := by omega
            have e4 : cap - l' = 0 := by omega
            rw [e3, e4]
            exact .sl0 _ _ _ hρ
          · rw [if_neg he]
            simp only [Option.map_some, add_off]
            refine .sl _ _ _ _ hρ (by omega) ?_
            have := mul_split (l := l') (cap := cap) (sz := sz) (by omega)
            omega
      | @sl0 i' b s off off' _ hρ =>
        have hh0 : h' = 0 := by omega
        have hl0 : l' = 0 := by omega
        subst hh0
        subst hl0
        rcases hc with ⟨ha, _⟩ | ⟨b2, off2, ha, rfl⟩
        · cases ha
        · cases ha
          refine ⟨_, hrun _ 0 (Nat.le_refl _), Post.here hm H ?_⟩
          simp only [if_true, Nat.sub_self]
          exact .sl0 _ _ _ hρ
    · cases hr
  · rename_i k e sz ag b off hi'
    rw [hi'] at hk
    obtain ⟨h1, hs, _⟩ := hk
    rw [MW.bind] at hm
    obtain ⟨cs, t', hb, hm⟩ := MW.cellsM hm
    rw [MW.grd] at hm
    obtain ⟨hg, hm⟩ := hm
    have hg : off + k * sz ≤ cs.length := Nat.le_of_ble_eq_true hg
    rw [MW.opt] at hm
    obtain ⟨r, hr, hm⟩ := hm
    unfold cutO at hr
    split at hr
    · rename_i l' h' e1 e2
      have q1 := optInt_ok hl e1
      have q2 := optInt_ok hh e2
      obtain ⟨c1, c2, hc⟩ := cutV_some hr
      rcases hc with ⟨ha, _⟩ | ⟨b2, off2, ha, rfl⟩
      · cases ha
      · cases ha
        cases hv with
        | @ptr _ b' s _ hρ =>
          obtain ⟨b3, s3, hρ3, hO⟩ := H.obj _ _ hb
          rw [hρ] at hρ3
          cases hρ3
          obtain ⟨C, tc, hC, hs2, hlen, hr2⟩ := OR.cells hO
          have hbd := run_bounds (P := P) (w := w) (isS := false) (n := k) (cap := k) q1 q2 c1 c2
          refine ⟨.slice (some (if k = l' then ⟨b', off, none⟩ else (⟨b', off, none⟩ : Addr).add (l' * sz))) (h' - l') (k - l'), by simp [Instr.sliceAt, run_underlying h1, Instr.sureAddr, hbd, hs.run], Post.here hm H ?_⟩
          by_cases he : k = l'
          · rw [if_pos he]
            have e3 : h' - l' = 0 := by omega
            have e4 : k - l' = 0 := by omega
            rw [e3, e4]
            exact .sl0 _ _ _ hρ
          · rw [if_neg he, add_off]
            refine .sl _ _ _ _ hρ (by omega) ?_
            have := mul_split (l := l') (cap := k) (sz := sz) (by omega)
            omega
    · cases hr
  · exact hm.elim

/-! ### New memory -/
theorem alloc_ok {B : Nat} {w0 : World} {Ds : List Nat} {h : Tr AObj} {n N : Nat} {t : TypeId} {i : TI} {Q : Value → Tr AObj → Nat → Prop}
    (hm : MW (M.bind (M.new (.cells i.zero t)) fun b => M.pure (ptrTo b)) h n Q) (hT : TyOK P t i) (hN : ∀ v h' n', Q v h' n' → n' ≤ N) (hF : Fresh ρ n N) (hB : B ≤ w0.heap.size) (H : HR B w0 Ds ρ h w) :
    ∃ u w', (Instr.alloc t true (.tuple #[])).run P w = .ok u w' ∧ Post B w0 Ds ρ n Q u w' := by
  rw [MW.bind] at hm
  obtain ⟨h', hq, he, hd, H'⟩ := row_ok (us := (zeroOf i).cells.toList) hm (fun v h' n' hq => hN _ _ _ hq) hF hB H hT.zvs
  refine ⟨_, _, ?_, _, _, _, _, hq, Nat.le_succ _, he, hd, H', .ptr 0 (upd_self _ _ _)⟩
  simp [Instr.alloc, hT.zero, newVar, newRow]

theorem box_ok {B : Nat} {w0 : World} {Ds : List Nat} {h : Tr AObj} {n N : Nat} {t : TypeId} {v a : Value} {Q : Value → Tr AObj → Nat → Prop}
    (hm : MW (M.bind (M.new (.cells (cellsOf v) t)) fun b => M.pure (ptrTo b)) h n Q) (hN : ∀ v h' n', Q v h' n' → n' ≤ N) (hF : Fresh ρ n N) (hB : B ≤ w0.heap.size) (H : HR B w0 Ds ρ h w) (hv : VR ρ v a) :
    ∃ u w', (Instr.box t a).run P w = .ok u w' ∧ Post B w0 Ds ρ n Q u w' := by
  rw [MW.bind] at hm
  obtain ⟨h', hq, he, hd, H'⟩ := row_ok hm (fun v h' n' hq => hN _ _ _ hq) hF hB H hv.cells
  refine ⟨_, _, ?_, _, _, _, _, hq, Nat.le_succ _, he, hd, H', .ptr 0 (upd_self _ _ _)⟩
  simp [Instr.box, newVar, newRow]

theorem map_ok {B : Nat} {w0 : World} {Ds : List Nat} {h : Tr AObj} {n N : Nat} {t : TypeId} {Q : Value → Tr AObj → Nat → Prop}
    (hm : MW (M.bind (M.new (.map [])) fun b => M.pure (.map (some b))) h n Q) (hN : ∀ v h' n', Q v h' n' → n' ≤ N) (hF : Fresh ρ n N) (hB : B ≤ w0.heap.size) (H : HR B w0 Ds ρ h w) :
    Post B w0 Ds ρ n Q (.map (some w.heap.size)) (w.alloc (.map #[] 0)) := by
  rw [MW.bind] at hm
  obtain ⟨h', hq, he, hd, H'⟩ := new_ok (b := w.heap.size) (s := 0) (w' := w.alloc (.map #[] 0)) hm (fun v h' n' hq => hN _ _ _ hq) hF hB H (grown_alloc _ _) (Nat.le_refl _) (by simp) (fun ρ' he => by
    rw [heap_alloc_new]
    exact ⟨[], rfl, .nil 0⟩)
  exact ⟨_, _, _, _, hq, Nat.le_succ _, he, hd, H', .map (upd_self _ _ _)⟩

theorem grown_trans {a b c : World} {row : Option Nat} (h : a.grownBy b row) (k : b.grownBy c row) : a.grownBy c row :=
  ⟨k.os.trans h.os, k.tape.trans h.tape, k.output.trans h.output, Nat.le_trans h.size k.size, fun i hi hn => (k.block i (Nat.lt_of_lt_of_le hi h.size) hn).trans (h.block i hi hn)⟩
theorem newSlice_ok {B : Nat} {w0 : World} {Ds : List Nat} {h : Tr AObj} {n N : Nat} {e : TypeId} {sz len cap : Nat} {cs : List Value} {C : Array Value} {Q : Value → Tr AObj → Nat → Prop}
    (hm : MW (newSlice e sz len cs) h n Q) (hN : ∀ v h' n', Q v h' n' → n' ≤ N) (hF : Fresh ρ n N) (hB : B ≤ w0.heap.size) (H : HR B w0 Ds ρ h w) {w1 : World} (hg : w.grownBy w1 none) (hs : w1.heap.size = w.heap.size)
    (hl : cs.length ≤ C.size) (hv : VRs ρ cs (C.toList.take cs.length)) (hlc : len ≤ cap) (hcap : cap * sz ≤ C.size) :
    Post B w0 Ds ρ n Q (.slice (some ⟨w.heap.size, 0, none⟩) len cap) (w1.alloc (.cells C e)) := by
  unfold newSlice at hm
  rw [MW.bind] at hm
  obtain ⟨h', hq, he, hd, H'⟩ := new_ok (b := w.heap.size) (s := C.size) (w' := w1.alloc (.cells C e)) hm (fun v h' n' hq => hN _ _ _ hq) hF hB H (grown_trans hg (grown_alloc _ _)) (Nat.le_refl _) (by simp [hs]) (fun ρ' he => by
    rw [← hs, heap_alloc_new]
    exact or_cells (hv.mono he) hl)
  refine ⟨_, _, _, _, hq, Nat.le_succ _, he, hd, H', .sl 0 _ _ _ (upd_self _ _ _) hlc (by omega)⟩

theorem vrs_self_take {cs : List Value} {us : List Value} (h : VRs ρ cs us) : VRs ρ cs (us.take cs.length) := by
  rw [List.take_of_length_le (by rw [h.1]; exact Nat.le_refl _)]; exact h

/-! ### append -/
theorem cells_len {B : Nat} {w0 : World} {Ds : List Nat} {h : Tr AObj} {n : Nat} {sz : Nat} {x a : Value} {Q : List Value → Tr AObj → Nat → Prop}
    (hm : MW (sliceCells sz x) h n Q) (H : HR B w0 Ds ρ h w) (hx : VR ρ x a) : ∃ A m c cs us, a = .slice A m c ∧ (∃ A' c', x = .slice A' m c') ∧ Q cs h n ∧ VRs ρ cs us ∧ us.length = m * sz ∧
      (∀ w' : World, w'.heap = w.heap → (Builtin.firstCells sz m a).run P w' = .ok us.toArray w') := by
  unfold sliceCells at hm
  split at hm
  · cases hx
    exact ⟨_, _, _, _, _, rfl, ⟨_, _, rfl⟩, hm, .nil, by simp, fun _ _ => rfl⟩
  · rename_i b off len c
    rw [MW.bind] at hm
    obtain ⟨cs, t', hb, hm⟩ := MW.cellsM hm
    rw [MW.grd] at hm
    obtain ⟨hg, hm⟩ := hm
    have hg : off + len * sz ≤ cs.length := Nat.le_of_ble_eq_true hg
    obtain ⟨b2, s2, hρ2, hO⟩ := H.obj _ _ hb
    obtain ⟨C, tc, hC, hs2, hlen, hr2⟩ := OR.cells hO
    have hus : ((C.toList.drop off).take (len * sz)).length = len * sz := by simp; omega
    cases hx with
    | @sl i' b' s _ _ _ cap hρ hlc hroom =>
      rw [hρ] at hρ2
      cases hρ2
      refine ⟨_, _, _, _, _, rfl, ⟨_, _, rfl⟩, hm, vrs_part hr2 hg, hus, fun w' hw' => ?_⟩
      exact run_cells (hw' ▸ hC) (by omega)
    | @sl0 i' b' s _ off' _ hρ =>
      rw [hρ] at hρ2
      cases hρ2
      refine ⟨_, _, _, _, [], rfl, ⟨_, _, rfl⟩, hm, ?_, by simp, fun w' hw' => ?_⟩
      · simp only [Nat.zero_mul, List.take_zero]; exact .nil
      · show (loadCells _ (0 * sz)).run P w' = _
        rw [Nat.zero_mul]
        rfl
  · exact hm.elim

theorem append_ok {B : Nat} {w0 : World} {Ds : List Nat} {h : Tr AObj} {n N : Nat} {t ty e : TypeId} {sz by_ : Nat} {s x a c : Value} {Q : Value → Tr AObj → Nat → Prop}
    (hm : MW (appendM e sz by_ s x) h n Q) (hK : KOK P t (.slice e sz by_)) (hN : ∀ v h' n', Q v h' n' → n' ≤ N) (hF : Fresh ρ n N) (hB : B ≤ w0.heap.size) (H : HR B w0 Ds ρ h w) (hs : VR ρ s a) (hx : VR ρ x c) :
    ∃ u w', (Builtin.append_ #[t, t] ty #[a, c]).run P w = .ok u w' ∧ Post B w0 Ds ρ n Q u w' := by
  obtain ⟨ht, I, z, hi, hisz, hiby, hiz, hzsz⟩ := hK
  subst hisz
  subst hiby
  unfold appendM at hm
  split at hm
  · rename_i A len k A2 m k2
    rw [MW.grd] at hm
    obtain ⟨hg, hm⟩ := hm
    simp only [Bool.and_eq_true, Nat.ble_eq] at hg
    obtain ⟨hg, hszk⟩ := hg
    rw [MW.bind] at hm
    obtain ⟨Ax, m', cx, new, us, rfl, ⟨A', c', ex⟩, hm1, hnv, hnl, hfc⟩ := cells_len (P := P) hm H hx
    clear hm
    cases ex
    rw [MW.grd] at hm1
    obtain ⟨hone, hm⟩ := hm1
    have src : Src P I.size t (.slice Ax m cx) m us w := ⟨.inl ⟨e, ht⟩, fun _ => rfl, hfc w rfl, hfc w.drew rfl, hnl, hnv.ones hone⟩
    have hnew : new.length = m * I.size := by rw [hnv.1]; exact hnl
    -- where there is no room
    have grow : ∀ (base : Option Addr) (cap : Nat) (olds cs : List Value), a = .slice base len cap → cap < len + m → VRs ρ cs olds → cs.length = len * I.size →
        (∀ w' : World, w'.heap = w.heap → (Builtin.firstCells I.size len (.slice base len cap)).run P w' = .ok olds.toArray w') → 
        ∃ w1 C cap', (Builtin.append_ #[t, t] ty #[a, .slice Ax m cx]).run P w = .ok (.slice (some ⟨w.heap.size, 0, none⟩) (len + m) cap') (w1.alloc (.cells C e)) ∧ w.grownBy w1 none ∧ w1.heap.size = w.heap.size ∧
          (cs ++ new).length ≤ C.size ∧ VRs ρ (cs ++ new) (C.toList.take (cs ++ new).length) ∧ len + m ≤ cap' ∧ cap' * I.size ≤ C.size := by
      intro base cap olds cs ea hcap hov hol hof
      subst ea
      have hnc := nextslicecap_le (need := len + m) (old := cap) hcap
      have hfit : Builtin.nextslicecap (len + m) cap * I.bytes ≤ 281474976710656 := by
        have : Builtin.nextslicecap (len + m) cap * I.bytes ≤ 120000 * 1000 := Nat.mul_le_mul (by omega) hg.2
        omega
      have hr := run_append_grow_src w t t ty e I z ht hi hiz base len cap olds (hof w.drew rfl) (.slice Ax m cx) m us src hcap (by omega) hfit
      have hge := grownCap_ge w (len + m) cap e
      have hlen : (olds ++ us).length = (len + m) * I.size := by rw [List.length_append, ← hov.1, hol, hnl, Nat.add_mul]
      have hlen2 : (cs ++ new).length = (len + m) * I.size := by rw [List.length_append, hol, hnew, Nat.add_mul]
      have hCs : ((olds ++ us).toArray ++ Builtin.zeroCells z.cells (grownCap w (len + m) cap e - (len + m))).size = grownCap w (len + m) cap e * I.size := by
        simp only [Array.size_append, List.size_toArray, size_zeroCells, hzsz, hlen, ← Nat.add_mul]
        congr 1
        omega
      have hmul : (len + m) * I.size ≤ grownCap w (len + m) cap e * I.size := Nat.mul_le_mul_right _ hge
      refine ⟨_, _, _, hr, ⟨rfl, rfl, rfl, Nat.le_refl _, fun _ _ _ => rfl⟩, rfl, by omega, ?_, hge, by omega⟩
      rw [hlen2]
      simp only [Array.toList_append]
      rw [← hlen, List.take_left']
      · exact hov.append hnv
      · rfl
    by_cases hm0 : m = 0
    · subst hm0
      rw [show Nat.beq 0 0 = true from rfl] at hm
      simp only [cond_true] at hm
      have hus0 : us = [] := List.length_eq_zero_iff.1 (by rw [hnl, Nat.zero_mul])
      subst hus0
      refine ⟨a, w, ?_, Post.here hm H hs⟩
      cases hs with
      | slN =>
        simp [Builtin.append_, run_underlying ht, sizeOf, typeInfo, hi, Builtin.lenOf, hfc w rfl]
      | @sl i' b' s' off _ _ cap hρ hlc hroom =>
        simp [Builtin.append_, run_underlying ht, sizeOf, typeInfo, hi, Builtin.lenOf, hfc w rfl, hlc, storeCells]
      | @sl0 i' b' s' off off' _ hρ =>
        simp [Builtin.append_, run_underlying ht, sizeOf, typeInfo, hi, Builtin.lenOf, hfc w rfl, storeCells]
    · have hmb : Nat.beq m 0 = false := by cases m; contradiction; rfl
      rw [hmb] at hm
      simp only [cond_false] at hm
      split at hm
      · -- a nil slice
        cases hs with
        | slN =>
          obtain ⟨w1, C, cap', hr, hg1, hs1, k1, k2, k3, k4⟩ := grow none 0 [] [] rfl (by omega) .nil (by simp) (fun _ _ => rfl)
          rw [Nat.zero_add] at hr k3
          simp only [List.nil_append] at k1 k2
          exact ⟨_, _, hr, newSlice_ok hm hN hF hB H hg1 hs1 k1 k2 k3 k4⟩
      · rename_i j
        rw [MW.bind] at hm
        have hcell : ∃ cs t, h.get j = some (.cells cs t) := by
          have q := hm
          unfold sliceCells at q
          rw [MW.bind] at q
          obtain ⟨cs, t', hb, _⟩ := MW.cellsM q
          exact ⟨cs, t', hb⟩
        obtain ⟨As, ls, cps, old, os, ea, ⟨A3, c3, ex⟩, hm2, hov, hol, hof⟩ := cells_len (P := P) hm H hs
        clear hm
        have hm := hm2
        clear hm2
        cases ex
        have hkz : k = I.size := Nat.eq_of_beq_eq_true hszk
        subst hkz
        rw [MW.bind, MW.kill] at hm
        obtain ⟨⟨ob, hj⟩, hjl, hm⟩ := hm
        have holn : old.length = len * I.size := by rw [hov.1]; exact hol
        have hA : ∃ b' s', ρ j = some (b', s') ∧ ((As = some ⟨b', 0, none⟩ ∧ len ≤ cps ∧ cps * I.size ≤ s' ∧ I.size = I.size) ∨ cps = 0) := by
          subst ea
          cases hs with
          | @sl i' b' s' off _ _ cap hρ hlc hroom => exact ⟨b', s', hρ, .inl ⟨rfl, hlc, by omega, rfl⟩⟩
          | @sl0 i' b' s' off off' _ hρ => exact ⟨b', s', hρ, .inr rfl⟩
        obtain ⟨b', s', hρ, hA⟩ := hA
        by_cases hroom : len + m ≤ cps
        · -- there is room
          obtain ⟨rfl, hlc, hcs, _⟩ := hA.resolve_right (by omega)
          have hmul : (len + m) * I.size ≤ cps * I.size := Nat.mul_le_mul_right _ hroom
          obtain ⟨b2, s2, hρ2, hO⟩ := H.obj _ _ hj
          rw [hρ] at hρ2
          cases hρ2
          obtain ⟨ocs, ot, hcell⟩ := hcell
          rw [hj] at hcell
          cases hcell
          · obtain ⟨C, tc, hC, hCs, hlen, hr2⟩ := OR.cells hO
            have hlt : len * I.size + us.length ≤ C.size := by rw [hnl, ← Nat.add_mul]; omega
            have hst := run_storeCells_at P b' (len * I.size) tc us 0 C w hC (by simpa using hlt) (hnv.ones hone)
            simp only [Nat.add_zero] at hst
            unfold newSlice at hm
            rw [MW.bind, MW.new] at hm
            obtain ⟨hn1, hn2, hm⟩ := hm
            have hn : ρ n = none := hF n (Nat.le_refl _) (by have := hN _ _ _ hm; omega)
            refine ⟨.slice (some ⟨b', 0, none⟩) (len + m) cps, w.setRow b' (C.toList.take (len * I.size) ++ us ++ C.toList.drop (len * I.size + us.length)).toArray, ?_, _, _, _, _, hm, Nat.le_succ _, upd_ext _ hn, upd_dom _ _ _,
              H.over hB _ hj hρ hjl hn1 hn hn2 (grown_setRow _ _ _) ?_, .sl 0 _ _ _ (upd_self _ _ _) hroom (by omega)⟩
            · subst ea
              have hadd : (⟨b', 0, none⟩ : Addr).add (len * I.size) = ⟨b', len * I.size, none⟩ := by rw [add_off]; simp
              simp [Builtin.append_, run_underlying ht, sizeOf, typeInfo, hi, Builtin.lenOf, hfc w rfl, hroom, hadd, hst]
            · have hol2 := hof w rfl
              subst ea
              have he := run_cells (P := P) (off := 0) (k := len * I.size) hC (by omega)
              have e1 : os = C.toList.take (len * I.size) := by
                have q : (Builtin.firstCells I.size len (.slice (some ⟨b', 0, none⟩) len cps)).run P w = .ok os.toArray w := hol2
                change (loadCells ⟨b', 0, none⟩ (len * I.size)).run P w = _ at q
                rw [he] at q
                injection q with q1 _
                have := congrArg Array.toList q1
                simpa using this.symm
              refine ⟨_, _, setRow_heap w b' C _ tc _ hC, ?_, ?_, ?_⟩
              · simp; omega
              · rw [List.length_append, holn, hnew, ← Nat.add_mul]; omega
              · have hl3 : (old ++ new).length = (C.toList.take (len * I.size) ++ us).length := by
                  rw [List.length_append, List.length_append, ← e1, hov.1, hnv.1]
                have : (C.toList.take (len * I.size) ++ us ++ C.toList.drop (len * I.size + us.length)).take (old ++ new).length = os ++ us := by
                  rw [hl3, List.take_left' rfl, e1]
                simp only [List.toList_toArray]
                rw [this]
                exact (hov.append hnv).mono (upd_ext _ hn)
        · have hcap : cps < len + m := by omega
          subst ea
          obtain ⟨w1, C, cap', hr, hg1, hs1, k1, k2, k3, k4⟩ := grow As cps os old rfl hcap hov holn hof
          have H2 : HR B w0 Ds ρ (h.set 20 j none) w := H.sub fun k o e => by
            rw [Tr.get_set20 _ _ _ _ hjl] at e
            by_cases c : k = j
            · rw [if_pos c] at e; cases e
            · rw [if_neg c] at e; exact e
          exact ⟨_, _, hr, newSlice_ok hm hN hF hB H2 hg1 hs1 k1 k2 k3 k4⟩
      · exact hm.elim
  · exact hm.elim
end
end Go.IM
