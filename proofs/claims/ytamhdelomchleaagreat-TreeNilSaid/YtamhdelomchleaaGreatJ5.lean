/- The leaner machine and the model: results, loops, the blocks of book-keeping. -/
import Derived.Test.YtamhdelomchleaaGreatJ4
set_option linter.unusedVariables false
set_option linter.unusedSimpArgs false
namespace Go.IM
open Go.RowKit

namespace HR
variable {B : Nat} {w0 : World} {Ds Ds' : List Nat} {ρ : Nam} {h g : Tr AObj} {w w' : World}
theorem less (H : HR B w0 Ds ρ h w) (hs : ∀ D ∈ Ds', D ∈ Ds) : HR B w0 Ds' ρ h w :=
  ⟨H.obj, H.inj, fun i b s e => ⟨(H.rng i b s e).1, (H.rng i b s e).2.1, fun hb => (H.rng i b s e).2.2 (hs b hb)⟩, H.bel, fun D hD => H.ds D (hs D hD)⟩

/-- A name is forgotten, and its block is written. -/
theorem kill (H : HR B w0 Ds ρ h w) (hB : B ≤ w0.heap.size) {i b s : Nat} {o : AObj} (hi : h.get i = some o) (hρ : ρ i = some (b, s)) (hl : i < 65536) (hg : w.grownBy w' (some b)) : HR B w0 Ds ρ (h.set 20 i none) w' := by
  have hr := H.rng i b s hρ
  have hBw : B ≤ w.heap.size := Nat.le_trans hB H.bel.size
  have live : ∀ j p, (h.set 20 i none).get j = some p → h.get j = some p ∧ j ≠ i := fun j p e => by
    rw [Tr.get_set20 _ _ _ _ hl] at e
    by_cases c : j = i
    · rw [if_pos c] at e; cases e
    · rw [if_neg c] at e; exact ⟨e, c⟩
  refine ⟨fun j p hj => ?_, fun j k c t t' h1 h2 e1 e2 => ?_, fun j c t e => ?_, below_of H.bel hg (fun c e => by cases e; exact hr.1) hBw, fun D hD => ?_⟩
  · obtain ⟨hj', hne⟩ := live j p hj
    obtain ⟨c, t, h1, h2⟩ := H.obj j p hj'
    have hcb : c ≠ b := fun e1 => hne (H.inj j i c t s (by rw [hj']; rfl) (by rw [hi]; rfl) h1 (by rw [e1]; exact hρ))
    refine ⟨c, t, h1, ?_⟩
    rw [hg.block c (H.rng j c t h1).2.1 (fun e1 => hcb (by injection e1))]
    exact h2
  · obtain ⟨p, hp⟩ := Option.isSome_iff_exists.1 h1
    obtain ⟨q, hq⟩ := Option.isSome_iff_exists.1 h2
    exact H.inj j k c t t' (by rw [(live j p hp).1]; rfl) (by rw [(live k q hq).1]; rfl) e1 e2
  · have := H.rng j c t e
    exact ⟨this.1, Nat.lt_of_lt_of_le this.2.1 hg.size, this.2.2⟩
  · have := H.ds D hD
    refine ⟨blk_keep hg this.1 (fun e => hr.2.2 ?_), this.2⟩
    injection e with e
    rw [← e]
    exact hD

/-- A block for deferred calls is laid. -/
theorem defer (H : HR B w0 Ds ρ h w) (hB : B ≤ w0.heap.size) : HR B w0 (w.heap.size :: Ds) ρ h (w.alloc (.deferred (some []))) := by
  have hg := World.grownBy_alloc w (.deferred (some [])) none
  have hBw : B ≤ w.heap.size := Nat.le_trans hB H.bel.size
  refine ⟨fun j p hj => ?_, H.inj, fun j c t e => ?_, below_of H.bel hg (fun c e => by cases e) hBw, fun D hD => ?_⟩
  · obtain ⟨c, t, h1, h2⟩ := H.obj j p hj
    refine ⟨c, t, h1, ?_⟩
    rw [hg.block c (H.rng j c t h1).2.1 (fun e1 => by cases e1)]
    exact h2
  · have := H.rng j c t e
    refine ⟨this.1, Nat.lt_of_lt_of_le this.2.1 hg.size, fun hm => ?_⟩
    rcases List.mem_cons.1 hm with e' | e'
    · omega
    · exact this.2.2 e'
  · rcases List.mem_cons.1 hD with rfl | hD
    · exact ⟨heap_alloc_new _ _, hBw⟩
    · exact ⟨blk_keep hg (H.ds D hD).1 (fun e => by cases e), (H.ds D hD).2⟩

/-- Such a block is shut. -/
theorem close {D : Nat} (H : HR B w0 (D :: Ds) ρ h w) (hB : B ≤ w0.heap.size) (hD : D ∉ Ds) (hg : w.grownBy w' (some D)) : HR B w0 Ds ρ h w' := by
  have hBw : B ≤ w.heap.size := Nat.le_trans hB H.bel.size
  refine ⟨fun j p hj => ?_, H.inj, fun j c t e => ?_, below_of H.bel hg (fun c e => by cases e; exact (H.ds D (by simp)).2) hBw, fun E hE => ?_⟩
  · obtain ⟨c, t, h1, h2⟩ := H.obj j p hj
    refine ⟨c, t, h1, ?_⟩
    rw [hg.block c (H.rng j c t h1).2.1 (fun e1 => (H.rng j c t h1).2.2 (by injection e1 with e1; rw [e1]; simp))]
    exact h2
  · have := H.rng j c t e
    exact ⟨this.1, Nat.lt_of_lt_of_le this.2.1 hg.size, fun hm => this.2.2 (List.mem_cons_of_mem _ hm)⟩
  · have := H.ds E (List.mem_cons_of_mem _ hE)
    exact ⟨blk_keep hg this.1 (fun e => hD (by injection e with e; rw [← e]; exact hE)), this.2⟩
end HR

theorem grown_putObj (w : World) (b : Nat) (o : Obj) : w.grownBy (w.putObj b o) (some b) :=
  ⟨rfl, rfl, rfl, by simp [World.putObj], fun k _ hne => World.putObj_heap_other (fun e => hne (by rw [e]))⟩

section
variable {P : Program} {w : World} {ρ : Nam}

theorem getD_of {ts : Array Value} {t : Nat} {u : Value} (h : ts[t]? = some u) : ts.getD t undef = u := by
  rw [Array.getD_eq_getD_getElem?, h]; rfl

def resF (ts : Array Value) : ResultVar → Sem Value
  | .tmp t => pure (ts.getD t undef)
  | .cell a t => do loadVar t (← asAddr (ts.getD a undef))

theorem res_list {B : Nat} {w0 : World} {Ds : List Nat} {h : Tr AObj} {n nt : Nat} {T : Tab} {tm : Tr Value} {ts : Array Value} (hT : TabOK P T) (H : HR B w0 Ds ρ h w) (hTR : TR ρ nt tm ts) :
    ∀ {rs : List ResultVar} {Q : List Value → Tr AObj → Nat → Prop}, MW (resM T tm rs) h n Q → ∃ vs us, Q vs h n ∧ VRs ρ vs us ∧
      (rs.mapM (resF ts)).run P w = .ok us w
  | [], Q, hm => ⟨[], [], hm, .nil, rfl⟩
  | .tmp t :: rs, Q, hm => by
    unfold resM at hm
    rw [MW.opt] at hm
    obtain ⟨v, hv, hm⟩ := hm
    rw [MW.bind] at hm
    obtain ⟨vs, us, hq, hvs, hrun⟩ := res_list hT H hTR hm
    obtain ⟨u, hu, hvu⟩ := hTR.2 _ _ hv
    refine ⟨_, u :: us, hq, .cons hvu hvs, ?_⟩
    rw [List.mapM_cons]
    simp only [resF, Sem.run_bind, Sem.run_pure, Result.andThen_ok, getD_of hu, hrun]
  | .cell a t :: rs, Q, hm => by
    unfold resM at hm
    rw [MW.opt] at hm
    obtain ⟨i, hi, hm⟩ := hm
    rw [MW.opt] at hm
    obtain ⟨p, hp, hm⟩ := hm
    rw [MW.bind] at hm
    obtain ⟨u, hu, hvu⟩ := hTR.2 _ _ hp
    obtain ⟨v, c, q, hm, hvc, rfl, hload⟩ := load_ok (P := P) hm (hT.ty _ _ hi) H hvu
    rw [MW.bind] at hm
    obtain ⟨vs, us, hq, hvs, hrun⟩ := res_list hT H hTR hm
    refine ⟨_, c :: us, hq, .cons hvc hvs, ?_⟩
    rw [List.mapM_cons]
    have hr : (resF ts (.cell a t)).run P w = .ok c w := by
      simp only [resF]
      rw [getD_of hu]
      simp only [asAddr, Sem.run_bind, Sem.run_pure, Result.andThen_ok, hload]
    simp only [Sem.run_bind, Sem.run_pure, Result.andThen_ok, hr, hrun]

theorem results_ok {B : Nat} {w0 : World} {Ds : List Nat} {h : Tr AObj} {n nt : Nat} {T : Tab} {tm : Tr Value} {ts : Array Value} {fn : Func} {x : Ex} {Q : Value → Tr AObj → Nat → Prop} (hT : TabOK P T) (H : HR B w0 Ds ρ h w) (hTR : TR ρ nt tm ts)
    (hm : MW (finM T fn (x, tm)) h n Q) : (∀ id, x ≠ .exit id) ∧ ∃ v u, Q v h n ∧ VR ρ v u ∧ (results fn ts).run P w = .ok u w := by
  unfold finM at hm
  split at hm
  · exact hm.elim
  · rename_i hne
    refine ⟨fun id e => hne id e, ?_⟩
    rw [MW.bind] at hm
    obtain ⟨vs, us, hq, hvs, hrun⟩ := res_list hT H hTR hm
    have hq : Q (tupM vs) h n := hq
    have hr : (results fn ts).run P w = .ok (if h : us.toArray.size = 1 then us.toArray[0] else .tuple us.toArray) w := by
      show ((do
        let vs ← fn.results.mapM (resF ts)
        pure (if h : vs.size = 1 then vs[0] else .tuple vs)) : Sem Value).run P w = _
      rw [Array.mapM_eq_mapM_toList]
      simp only [Sem.run_bind, Sem.run_map, hrun, Result.andThen_ok, Sem.run_pure]
    refine ⟨_, _, hq, ?_, hr⟩
    cases vs with
    | nil => rw [VRs.inv_nil hvs]; exact VRs.nil.tup
    | cons v vs =>
      obtain ⟨u, us', rfl, hv, hvs'⟩ := hvs.inv_cons
      cases vs with
      | nil => rw [VRs.inv_nil hvs']; exact hv
      | cons v2 vs =>
        obtain ⟨u2, us2, rfl, hv2, hvs2⟩ := hvs'.inv_cons
        have : ¬ ((u :: u2 :: us2).toArray.size = 1) := by simp
        rw [dif_neg this]
        exact (VRs.cons hv (.cons hv2 hvs2)).tup

/-! ### Loops -/
/-- From the loop's own item on. -/
def LoopW (F : Fence) (n : Nat) (P : Program) (c : Code) (Q : Exit → Act → World → Prop) (a : Act) (w : World) : Prop :=
  ∀ (b : Frame) (k : List Item) (cs : List Frame), b.roundOf = F.round → F.fn b.fn → F.room (cs.length + 1 + n) →
    ∃ e a' w', Q e a' w' ∧ ArrivesIn (Machine.fenced P F) P (lone (b.atR a (.code c :: .inLoop c :: k)) cs w) b k cs e a' w'

theorem loopW_mono {F : Fence} {n : Nat} {c : Code} {Q Q' : Exit → Act → World → Prop} {a : Act} (h : LoopW F n P c Q a w) (hq : ∀ e a w, Q e a w → Q' e a w) : LoopW F n P c Q' a w :=
  fun b k cs hro hb hr => let ⟨e, a', w', q, r⟩ := h b k cs hro hb hr; ⟨e, a', w', hq _ _ _ q, r⟩

theorem wpIn_of_loopW {F : Fence} {n : Nat} {c : Code} {Q : Exit → Act → World → Prop} {a : Act} (h : LoopW F n P c Q a w) : (Code.loop c).wpIn F n P Q a w := by
  intro b k cs hro hb hr
  obtain ⟨e, a', w', hq, harr⟩ := h b k cs hro hb hr
  exact ⟨e, a', w', hq, .of_steps (.one (fenced_calm hb hr rfl) stepR_loop) harr⟩

theorem loopW_of {F : Fence} {n : Nat} {c : Code} {Q : Exit → Act → World → Prop} {a : Act} (h : c.wpIn F n P (Exit.then (LoopW F n P c Q) Q) a w) : LoopW F n P c Q a w := by
  intro b k cs hro hb hr
  obtain ⟨e, a₁, w₁, hq, harr⟩ := h b (.inLoop c :: k) cs hro hb hr
  cases e with
  | normal =>
    obtain ⟨e₂, a₂, w₂, hq₂, harr₂⟩ := hq b k cs hro hb hr
    exact ⟨e₂, a₂, w₂, hq₂, .of_steps (StepsIn.trans harr (.one (fenced_calm hb hr rfl) stepR_inLoop)) harr₂⟩
  | exit id => exact ⟨_, a₁, w₁, hq, .pass (x := .inLoop c) rfl (fun _ _ => .inl (by simp)) harr⟩
  | goto l => exact ⟨_, a₁, w₁, hq, .pass (x := .inLoop c) rfl (fun _ _ => .inl (by simp)) harr⟩
  | ret => exact ⟨_, a₁, w₁, hq, .pass (x := .inLoop c) rfl (fun _ _ => .inl (by simp)) harr⟩
  | panic ch => exact ⟨_, a₁, w₁, hq, .pass (x := .inLoop c) rfl (fun _ _ => .inl (by simp)) harr⟩
  | outgrown => exact ⟨_, a₁, w₁, hq, .pass (x := .inLoop c) rfl (fun _ _ => .inl (by simp)) harr⟩

/-! ### Parameters -/
theorem params_tr : ∀ {args as : List Value} {i : Nat} {tm : Tr Value}, VRs ρ args as → i + args.length ≤ 60000 → ∀ t v, (params i args tm).get t = some v → (i ≤ t ∧ t < i + args.length ∧ ∃ u, as[t - i]? = some u ∧ VR ρ v u) ∨ (tm.get t = some v ∧ (t < i ∨ i + args.length ≤ t))
  | [], as, i, tm, h, hl, t, v, e => .inr ⟨e, by simp only [List.length_nil]; omega⟩
  | x :: args, as, i, tm, h, hl, t, v, e => by
    obtain ⟨u, as', rfl, hx, h'⟩ := h.inv_cons
    simp only [List.length_cons] at hl ⊢
    unfold params at e
    rcases params_tr h' (by simp only [Nat.succ_eq_add_one]; omega) t v e with ⟨h1, h2, u', h3, h4⟩ | ⟨h1, h2⟩
    · simp only [Nat.succ_eq_add_one] at h1 h2 h3
      refine .inl ⟨by omega, by omega, u', ?_, h4⟩
      rw [show t - i = (t - (i + 1)) + 1 by omega]
      simpa using h3
    · simp only [Nat.succ_eq_add_one] at h2
      rw [Tr.get_set20 _ _ _ _ (by omega)] at h1
      by_cases c : t = i
      · subst c
        rw [if_pos rfl] at h1
        cases h1
        exact .inl ⟨Nat.le_refl _, by omega, u, by simp, hx⟩
      · rw [if_neg c] at h1
        exact .inr ⟨h1, by omega⟩

theorem enter_tr {args as : List Value} {nt : Nat} (h : VRs ρ args as) (h1 : args.length ≤ nt) (h2 : args.length ≤ 60000) : TR ρ nt (params 0 args .nil) ((⟨as⟩ : Array Value) ++ Array.replicate (nt - (⟨as⟩ : Array Value).size) undef) := by
  have hl := h.1
  refine ⟨by simp; omega, fun t v e => ?_⟩
  rcases params_tr h (by omega) t v e with ⟨_, _, u, h3, h4⟩ | ⟨h3, _⟩
  · refine ⟨u, ?_, h4⟩
    have ht : t < as.length := (List.getElem?_eq_some_iff.1 (by simpa using h3)).1
    rw [Array.getElem?_append_left (by simpa using ht)]
    simpa using h3
  · rw [Tr.get_nil] at h3; cases h3

theorem setPs_ok {nt : Nat} : ∀ {ps : List Tmp} {args as : List Value} {tm tm' : Tr Value} {ts : Array Value}, setPs nt ps args tm = some tm' → VRs ρ args as → TR ρ nt tm ts →
    as.length = ps.length ∧ TR ρ nt tm' ((ps.zip as).foldl (fun (tmps : Array Value) (p : Tmp × Value) => tmps.setIfInBounds p.1 p.2) ts)
  | [], [], as, tm, tm', ts, e, h, hT => by cases e; rw [VRs.inv_nil h]; exact ⟨rfl, hT⟩
  | [], _ :: _, _, _, _, _, e, _, _ => by cases e
  | _ :: _, [], _, _, _, _, e, _, _ => by cases e
  | p :: ps, v :: args, as, tm, tm', ts, e, h, hT => by
    obtain ⟨u, as', rfl, hv, h'⟩ := h.inv_cons
    unfold setPs at e
    cases hp : putT nt tm (some p) v with
    | none => rw [hp] at e; cases e
    | some tm1 =>
      rw [hp] at e
      have h1 := (put_tr (a := ⟨ts, []⟩) hp hT hv).1
      obtain ⟨h2, h3⟩ := setPs_ok e h' h1
      exact ⟨by simp [h2], h3⟩
end
end Go.IM
