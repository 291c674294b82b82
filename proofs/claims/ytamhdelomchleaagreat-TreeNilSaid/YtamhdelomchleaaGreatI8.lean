/- The leaner machine and the model: structs, maps, walks over maps. -/
import Derived.Test.YtamhdelomchleaaGreatI7
import Derived.Laws.Tables
import Derived.Laws.MakeOwn
import Derived.Great.BuildSlice
set_option linter.unusedVariables false
set_option linter.unusedSimpArgs false
namespace Go.IM
open Go.RowKit

section
variable {P : Program} {w : World} {ρ : Nam}

/-! ### Parts put in -/
theorem over_set : ∀ (a : List Value) (p : Nat) (v : Value) (vs : List Value), p < a.length → over (a.set p v) (p + 1) vs = over a p (v :: vs)
  | [], p, v, vs, h => by simp at h
  | x :: a, 0, v, vs, h => by
    simp only [List.set_cons_zero]
    cases vs <;> rfl
  | x :: a, p + 1, v, vs, h => by
    simp only [List.set_cons_succ]
    have h1 : over (x :: a.set p v) (p + 1 + 1) vs = x :: over (a.set p v) (p + 1) vs := by cases vs <;> rfl
    have h2 : over (x :: a) (p + 1) (v :: vs) = x :: over a p (v :: vs) := rfl
    rw [h1, h2, over_set a p v vs (by simpa using h)]

theorem foldl_over : ∀ (vs : List Value) (k off : Nat) (C : Array Value), off + k + vs.length ≤ C.size →
    ((vs.zipIdx k).foldl (fun (cs : Array Value) (p : Value × Nat) => cs.setIfInBounds (off + p.2) p.1) C).toList = over C.toList (off + k) vs
  | [], k, off, C, h => by
    simp only [List.zipIdx_nil, List.foldl_nil]
    rw [over_eq _ _ _ (by simpa using h)]
    simp
  | v :: vs, k, off, C, h => by
    simp only [List.length_cons] at h
    simp only [List.zipIdx_cons, List.foldl_cons]
    rw [foldl_over vs (k + 1) off _ (by simp; omega), Array.toList_setIfInBounds, show off + (k + 1) = off + k + 1 by omega, over_set _ _ _ _ (by simp; omega)]

theorem fill_ok {place : Nat → Option (Nat × Nat)} : ∀ {ps qs : List (Nat × Value)} {cells cs : List Value} {C : Array Value}, fillL place cells ps = some cs → VRs ρ cells C.toList → PRs ρ ps qs →
    ∃ D, Instr.fill place C qs = some D ∧ VRs ρ cs D.toList
  | [], qs, cells, cs, C, e, hv, hp => by
    cases hp
    cases e
    exact ⟨C, rfl, hv⟩
  | (i, v) :: ps, qs, cells, cs, C, e, hv, hp => by
    cases hp with
    | @cons _ _ u _ qs' hvu hp' =>
      unfold fillL at e
      unfold Instr.fill
      cases hpl : place i with
      | none => rw [hpl] at e; cases e
      | some q =>
        obtain ⟨off, size⟩ := q
        rw [hpl] at e
        simp only at e ⊢
        cases hb : (Nat.beq (cellsOf v).length size && Nat.ble (off + size) cells.length) with
        | false => rw [hb] at e; cases e
        | true =>
          rw [hb] at e
          simp only [cond_true] at e
          simp only [Bool.and_eq_true, Nat.beq_eq, Nat.ble_eq] at hb
          have hc := hvu.cells
          have h1 : u.cells.size = size := by have := hc.1; simp at this; omega
          have h2 : C.size = cells.length := by have := hv.1; simp at this; omega
          have h3 : (u.cells.size ≠ size || off + u.cells.size > C.size) = false := by simp; omega
          simp only [ne_eq, gt_iff_lt] at h3
          have hfold : (u.cells.zipIdx.foldl (fun (cs : Array Value) (p : Value × Nat) => cs.setIfInBounds (off + p.2) p.1) C).toList = over C.toList off u.cells.toList := by
            have := foldl_over u.cells.toList 0 off C (by simp; omega)
            simp only [Nat.add_zero] at this
            rw [← this]
            rw [← Array.foldl_toList, Array.toList_zipIdx]
          have hrec := fill_ok (C := u.cells.zipIdx.foldl (fun (cs : Array Value) (p : Value × Nat) => cs.setIfInBounds (off + p.2) p.1) C) e (by rw [hfold]; exact hv.over off hc) hp'
          obtain ⟨D, hD, hr⟩ := hrec
          refine ⟨D, ?_, hr⟩
          rw [if_neg (by simpa using h3)]
          exact hD

theorem fields_list : ∀ (Fl : List Field) (fs : List (Nat × Nat × Bool)), Fl.length = fs.length → (∀ (j : Nat) (p : Nat × Nat × Bool), fs[j]? = some p → ∃ f : Field, Fl[j]? = some f ∧ p.1 = f.offset ∧ SzOK P f.type p.2.1) →
    Fl.mapM (fun f => (P.info? f.type).map fun i => (f.offset, i.size)) = some (fs.map fun p => (p.1, p.2.1))
  | [], [], _, _ => rfl
  | [], _ :: _, h, _ => by simp at h
  | _ :: _, [], h, _ => by simp at h
  | f :: Fl, p :: fs, h, hj => by
    obtain ⟨f', hf, h1, I, h2, h3⟩ := hj 0 p rfl
    simp only [List.getElem?_cons_zero, Option.some.injEq] at hf
    subst hf
    have ih := fields_list Fl fs (by simpa using h) (fun j q hq => by simpa using hj (j + 1) q (by simpa using hq))
    rw [List.mapM_cons]
    simp [h2, h3, h1, ih]

theorem placeS_eq (fs : List (Nat × Nat × Bool)) (j : Nat) : placeS fs j = (fs.map fun p => (p.1, p.2.1)).toArray[j]? := by
  unfold placeS
  cases hd : fs.drop j with
  | nil =>
    have : fs.length ≤ j := List.drop_eq_nil_iff.1 hd
    simp [this]
  | cons p l =>
    have := fields_at (F := #[]) hd
    simp [this]

theorem build_ok {t : TypeId} {i : TI} {n : Nat} {h : Tr AObj} {ps qs : List (Nat × Value)} {Q : Value → Tr AObj → Nat → Prop}
    (hm : MW (match i.k with
      | .struct fs => M.opt (fillL (placeS fs) i.zero ps) fun cs => M.pure (.agg ⟨cs⟩)
      | .array _ _ sz _ => M.opt (fillL (placeA sz) i.zero ps) fun cs => M.pure (.agg ⟨cs⟩)
      | _ => M.fail) h n Q) (hT : TyOK P t i) (hp : PRs ρ ps qs) : ∃ v u, Q v h n ∧ VR ρ v u ∧ (Instr.build t ⟨qs⟩).run P w = .ok u w := by
  have hk := hT.k
  obtain ⟨I, hi, hsz, hz⟩ := hT.inf
  split at hm
  · rename_i fs hi'
    rw [hi'] at hk
    obtain ⟨F, hF, hl, hj⟩ := hk
    rw [MW.opt] at hm
    obtain ⟨cs, e, hm⟩ := hm
    obtain ⟨D, hD, hr⟩ := fill_ok (C := (zeroOf i).cells) e hT.zvs hp
    refine ⟨_, _, hm, hr.agg, ?_⟩
    rw [run_build w t ⟨qs⟩ D]
    unfold Program.built
    have hpl := fields_list (P := P) F.toList fs (by simpa using hl) (fun j p hp => by
      obtain ⟨f, h1, h2, h3, _⟩ := hj j p hp
      exact ⟨f, by simpa using h1, h2, h3⟩)
    simp only [hi, hF, hz, hpl]
    rw [show (fun x => (List.map (fun p => (p.1, p.2.1)) fs).toArray[x]?) = placeS fs from funext fun j => (placeS_eq fs j).symm]
    exact hD
  · rename_i k e sz ag hi'
    rw [hi'] at hk
    obtain ⟨hA, ⟨J, hJ, hs⟩, _⟩ := hk
    rw [MW.opt] at hm
    obtain ⟨cs, e', hm⟩ := hm
    obtain ⟨D, hD, hr⟩ := fill_ok (C := (zeroOf i).cells) e' hT.zvs hp
    refine ⟨_, _, hm, hr.agg, ?_⟩
    rw [run_build w t ⟨qs⟩ D]
    unfold Program.built
    simp only [hi, hA, hz, hJ, hs]
    exact hD
  · exact hm.elim

theorem reps_len (z : List Value) : ∀ n, (reps z n).length = n * z.length
  | 0 => by simp [reps]
  | n + 1 => by rw [reps, List.length_append, reps_len z n, Nat.add_mul]; omega

theorem reps_get (z : List Value) : ∀ (n i : Nat), i < n * z.length → (reps z n)[i]? = z[i % z.length]?
  | 0, i, h => by simp at h
  | n + 1, i, h => by
    rw [reps]
    by_cases hi : i < z.length
    · rw [List.getElem?_append_left hi, Nat.mod_eq_of_lt hi]
    · rw [List.getElem?_append_right (by omega), reps_get z n (i - z.length) (by rw [Nat.add_mul] at h; omega)]
      congr 1
      rw [← Nat.mod_eq_sub_mod (by omega)]

theorem made_reps (z : Array Value) (n : Nat) : (madeCells z (n * z.size)).toList = reps z.toList n := by
  apply List.ext_getElem?
  intro i
  by_cases hi : i < n * z.size
  · rw [reps_get z.toList n i (by simpa using hi)]
    have hpos : 0 < z.size := by
      rcases Nat.eq_zero_or_pos z.size with h | h
      · rw [h] at hi; simp at hi
      · exact h
    have hm := Nat.mod_lt i hpos
    simp [madeCells, hi, hm]
  · rw [List.getElem?_eq_none (by simp [madeCells]; omega), List.getElem?_eq_none (by rw [reps_len]; simpa using hi)]

theorem zero_reps (z : Array Value) (n : Nat) : (Builtin.zeroCells z n).toList = reps z.toList n := by
  have := made_reps z n
  unfold madeCells at this
  exact this

theorem vrs_reps {z z' : List Value} (h : VRs ρ z z') : ∀ n, VRs ρ (reps z n) (reps z' n)
  | 0 => .nil
  | n + 1 => h.append (vrs_reps h n)

theorem buildSlice_ok {B : Nat} {w0 : World} {Ds : List Nat} {h : Tr AObj} {n N : Nat} {t e : TypeId} {ie : TI} {sz by_ len : Nat} {ps qs : List (Nat × Value)} {Q : Value → Tr AObj → Nat → Prop}
    (hm : MW (M.grd (Nat.ble (len * sz) 60000) fun _ => M.opt (fillL (placeA sz) (reps ie.zero len) ps) fun cs => newSlice e sz len cs) h n Q) (hK : KOK P t (.slice e sz by_)) (hE : TyOK P e ie) (hp : PRs ρ ps qs)
    (hN : ∀ v h' n', Q v h' n' → n' ≤ N) (hF : Fresh ρ n N) (hB : B ≤ w0.heap.size) (H : HR B w0 Ds ρ h w) : ∃ u w', (Instr.buildSlice t len ⟨qs⟩).run P w = .ok u w' ∧ Post B w0 Ds ρ n Q u w' := by
  obtain ⟨ht, I, z, hi, hisz, hiby, hiz, hzsz⟩ := hK
  subst hisz
  rw [MW.grd] at hm
  obtain ⟨hg, hm⟩ := hm
  have hg : len * I.size ≤ 60000 := Nat.le_of_ble_eq_true hg
  rw [MW.opt] at hm
  obtain ⟨cs, e1, hm⟩ := hm
  obtain ⟨I2, hi2, _, hz2⟩ := hE.inf
  rw [hi] at hi2
  cases hi2
  rw [hiz] at hz2
  cases hz2
  have hzc := hE.zc
  have hzv : VRs ρ (reps ie.zero len) (madeCells (zeroOf ie).cells (len * I.size)).toList := by
    rw [← hzsz, made_reps]
    exact vrs_reps hE.zvs len
  obtain ⟨D, hD, hr⟩ := fill_ok e1 hzv hp
  have hDs : ∀ {ps qs : List (Nat × Value)} {place} {C D : Array Value}, Instr.fill place C qs = some D → D.size = C.size := by
    intro _ qs place
    induction qs with
    | nil => intro C D h; cases h; rfl
    | cons q qs ih =>
      obtain ⟨i, v⟩ := q
      intro C D h
      unfold Instr.fill at h
      split at h
      · cases h
      · split at h
        · cases h
        · rw [ih h]
          rw [← Array.foldl_toList, Array.toList_zipIdx]
          have : ∀ (l : List (Value × Nat)) (C : Array Value) (off : Nat), (l.foldl (fun (cs : Array Value) (p : Value × Nat) => cs.setIfInBounds (off + p.2) p.1) C).size = C.size := by
            intro l
            induction l with
            | nil => intro C off; rfl
            | cons p l ih => intro C off; simp only [List.foldl_cons]; rw [ih]; simp
          exact this _ _ _
  have hsize : D.size = len * I.size := by rw [hDs (ps := ps) hD, size_madeCells]
  have hrun : (Instr.buildSlice t len ⟨qs⟩).run P w = .ok (.slice (some ⟨w.heap.size, 0, none⟩) len len) (w.alloc (.cells D e)) := by
    by_cases hpos : len * I.size = 0
    · have hD2 : Instr.fill (fun i => some (i * I.size, I.size)) #[] qs = some D := by
        have : madeCells (zeroOf ie).cells (len * I.size) = #[] := by rw [hpos]; simp [madeCells]
        rw [this] at hD
        exact hD
      have h0 : Array.range 0 = #[] := rfl
      simp [Instr.buildSlice, run_underlying ht, sizeOf, typeInfo, hi, hpos, h0, hD2, newRow]
    · exact run_buildSlice w t e len ⟨qs⟩ D I (zeroOf ie) ht hi hiz (by omega) hpos hD
  have hlen : cs.length = D.size := by have := hr.1; simpa using this
  exact ⟨_, _, hrun, newSlice_ok (cap := len) hm hN hF hB H ⟨rfl, rfl, rfl, Nat.le_refl _, fun _ _ _ => rfl⟩ rfl (by omega) (vrs_self_take hr) (Nat.le_refl _) (by omega)⟩

theorem make_ok {B : Nat} {w0 : World} {Ds : List Nat} {h : Tr AObj} {n N : Nat} {T : Tab} {t : TypeId} {i : TI} {v u a b : Value} {Q : Value → Tr AObj → Nat → Prop}
    (hm : MW (makeM T i.k v u) h n Q) (hT : TyOK P t i) (hTT : ∀ t i, T.ty t = some i → TyOK P t i) (hv : VR ρ v a) (hu : VR ρ u b)
    (hN : ∀ v h' n', Q v h' n' → n' ≤ N) (hF : Fresh ρ n N) (hB : B ≤ w0.heap.size) (H : HR B w0 Ds ρ h w) : ∃ u w', (Instr.makeSlice t a b).run P w = .ok u w' ∧ Post B w0 Ds ρ n Q u w' := by
  have hk := hT.k
  unfold makeM at hm
  split at hm
  · rename_i e sz by_ kl l kc c hi'
    rw [hi'] at hk
    obtain ⟨ht, I, z, hi, hisz, hiby, hiz, hzsz⟩ := hk
    subst hisz
    subst hiby
    cases hv
    cases hu
    rw [MW.opt] at hm
    obtain ⟨ie, hie, hm⟩ := hm
    have hE := hTT _ _ hie
    rw [MW.grd] at hm
    obtain ⟨hg, hm⟩ := hm
    simp only [Bool.and_eq_true, decide_eq_true_eq, Nat.ble_eq] at hg
    obtain ⟨⟨⟨g1, g2⟩, g3⟩, g4⟩ := hg
    obtain ⟨I2, hi2, _, hz2⟩ := hE.inf
    rw [hi] at hi2
    cases hi2
    rw [hiz] at hz2
    cases hz2
    have hb : (I.bytes : Int) * c ≤ 281474976710656 := by
      have h1 : (I.bytes : Int) ≤ 1000 := by omega
      have h2 : (I.bytes : Int) * c ≤ 1000 * c := Int.mul_le_mul_of_nonneg_right h1 (by omega)
      omega
    have hrun := run_make w t e I (zeroOf ie) ht hi hiz kl kc l c g1 g2 hb (by omega)
    have hsz : (madeCells (zeroOf ie).cells (c.toNat * I.size)).size = c.toNat * I.size := size_madeCells _ _
    have hlz : ie.zero.length = I.size := by rw [← hE.zc, ← hzsz]; simp
    have hmul : l.toNat * I.size ≤ c.toNat * I.size := Nat.mul_le_mul_right _ (by omega)
    refine ⟨_, _, hrun, newSlice_ok (cap := c.toNat) hm hN hF hB H ⟨rfl, rfl, rfl, Nat.le_refl _, fun _ _ _ => rfl⟩ rfl ?_ ?_ (by omega) (by omega)⟩
    · rw [reps_len, hlz, hsz]; exact hmul
    · have hz' : VRs ρ (reps ie.zero l.toNat) (reps (zeroOf ie).cells.toList l.toNat) := vrs_reps hE.zvs _
      have : (madeCells (zeroOf ie).cells (c.toNat * I.size)).toList.take (reps ie.zero l.toNat).length = reps (zeroOf ie).cells.toList l.toNat := by
        rw [← hzsz, made_reps, hE.zc]
        apply List.ext_getElem?
        intro j
        rw [List.getElem?_take]
        have hl2 : (reps ie.zero l.toNat).length = l.toNat * ie.zero.length := reps_len _ _
        by_cases hj : j < l.toNat * ie.zero.length
        · rw [if_pos (by omega), reps_get _ _ _ (by rw [hlz] at hj ⊢; omega), reps_get _ _ _ hj]
        · rw [if_neg (by omega), List.getElem?_eq_none (by omega)]
      rw [this]
      exact hz'
  · exact hm.elim

theorem clear_ok {B : Nat} {w0 : World} {Ds : List Nat} {h : Tr AObj} {n : Nat} {t ty e : TypeId} {ie : TI} {sz by_ : Nat} {x a : Value} {Q : Value → Tr AObj → Nat → Prop}
    (hm : MW (clearM ie.zero sz x) h n Q) (hK : KOK P t (.slice e sz by_)) (hE : TyOK P e ie) (hB : B ≤ w0.heap.size) (H : HR B w0 Ds ρ h w) (hx : VR ρ x a) :
    ∃ u w', (Builtin.clear_ #[t] ty #[a]).run P w = .ok u w' ∧ Post B w0 Ds ρ n Q u w' := by
  obtain ⟨ht, I, z, hi, hisz, hiby, hiz, hzsz⟩ := hK
  unfold clearM at hm
  split at hm
  · cases hx
    exact ⟨undef, w, by simp [Builtin.clear_, run_underlying ht, undef], Post.here hm H VR.undef⟩
  · rename_i b off len c
    by_cases hl : len = 0
    · subst hl
      rw [show Nat.beq 0 0 = true from rfl] at hm
      refine ⟨undef, w, ?_, Post.here hm H VR.undef⟩
      cases hx <;> simp [Builtin.clear_, run_underlying ht, undef]
    · have hlb : Nat.beq len 0 = false := by cases len; contradiction; rfl
      rw [hlb] at hm
      simp only [cond_false] at hm
      rw [MW.bind] at hm
      obtain ⟨cs, t', hb, hm⟩ := MW.cellsM hm
      rw [MW.grd] at hm
      obtain ⟨hg, hm⟩ := hm
      rw [MW.bind, MW.wr] at hm
      obtain ⟨_, hlt, hm⟩ := hm
      simp only [Bool.and_eq_true, Nat.beq_eq, Nat.ble_eq] at hg
      obtain ⟨⟨g1, g2⟩, g3⟩ := hg
      cases hx with
      | sl0 _ _ _ _ => exact absurd rfl hl
      | @sl i' b' s _ _ _ cap hρ hlc hroom =>
        obtain ⟨b2, s2, hρ2, hO⟩ := H.obj _ _ hb
        rw [hρ] at hρ2
        cases hρ2
        obtain ⟨C, tc, hC, hs2, hlen, hr2⟩ := OR.cells hO
        have hrl : (reps ie.zero len).length = len * sz := by rw [reps_len, g2]
        have hz' : VRs ρ (reps ie.zero len) (Builtin.zeroCells (zeroOf ie).cells len).toList := by rw [zero_reps]; exact vrs_reps hE.zvs _
        have hzl : (Builtin.zeroCells (zeroOf ie).cells len).toList.length = len * sz := by rw [← hz'.1, hrl]
        have hones : ∀ v ∈ (Builtin.zeroCells (zeroOf ie).cells len).toList, v.oneCell' = true := by
          refine hz'.ones ?_
          unfold ones
          rw [List.all_eq_true]
          intro v hv
          have : ∀ k, ∀ v ∈ reps ie.zero k, one1 v = true := by
            intro k
            induction k with
            | zero => simp [reps]
            | succ k ih =>
              intro v hv
              rw [reps, List.mem_append] at hv
              rcases hv with hv | hv
              · exact (List.all_eq_true.1 g3) v hv
              · exact ih v hv
          exact this len v hv
        have hst := run_storeCells_at P b' off tc (Builtin.zeroCells (zeroOf ie).cells len).toList 0 C w hC (by simp only [Nat.add_zero]; omega) hones
        simp only [Nat.add_zero] at hst
        refine ⟨undef, w.setRow b' (C.toList.take off ++ (Builtin.zeroCells (zeroOf ie).cells len).toList ++ C.toList.drop (off + (Builtin.zeroCells (zeroOf ie).cells len).toList.length)).toArray, ?_, Post.here hm (H.write hB _ hb hρ hlt (grown_setRow _ _ _) ?_) VR.undef⟩
        · unfold Builtin.clear_
          simp only [List.getElem?_toArray, List.getElem?_cons_zero, Sem.run_bind, run_underlying ht, Result.andThen_ok]
          cases len with
          | zero => exact absurd rfl hl
          | succ len => simp [hE.zero, hst, undef]
        · have hcs : off + (reps ie.zero len).length ≤ cs.length := by rw [hrl]; exact g1
          refine ⟨_, _, setRow_heap w b' C _ tc _ hC, ?_, ?_, ?_⟩
          · have : (Builtin.zeroCells (zeroOf ie).cells len).size = len * sz := by simpa using hzl
            have g1' : off + len * sz ≤ cs.length := g1
            simp; omega
          · rw [over_len _ _ _ hcs]; exact hlen
          · exact vrs_over hr2 (by omega) hcs hz'
  · exact hm.elim
end
end Go.IM
