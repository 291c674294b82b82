/- The leaner machine and the model: the machine is sound. -/
import Derived.Test.YtamhdelomchleaaGreatJ6
set_option linter.unusedVariables false
set_option linter.unusedSimpArgs false
namespace Go.IM
open Go.RowKit

section
variable {P : Program} {T : Tab} {ex : Exec}

theorem loc_then {k : Tr Value → M (Ex × Tr Value)} (hk : ∀ tm, Loc (k tm)) (p : Ex × Tr Value) : Loc (thenM k p) := by
  unfold thenM
  split
  · exact hk _
  · exact .pure _

theorem then_post {B : Nat} {w0 : World} {out : List Nat} {ρ : Nam} {n nt : Nat} {Q : Ex × Tr Value → Tr AObj → Nat → Prop} {k : Tr Value → M (Ex × Tr Value)} {next : Act → World → Prop} {e : Exit} {a' : Act} {w' : World}
    (h : CPost B w0 out ρ n nt (fun p h n => MW (thenM k p) h n Q) e a' w')
    (hnext : ∀ tm' h' n' ρ' own', MW (k tm') h' n' Q → n ≤ n' → Ext ρ ρ' → Dom ρ ρ' n n' → HR B w0 (own' ++ out) ρ' h' w' → TR ρ' nt tm' a'.tmps → a'.defers = own'.map mk → Apt own' out → next a' w') :
    Exit.then next (CPost B w0 out ρ n nt Q) e a' w' := by
  obtain ⟨x, tm', h', n', ρ', own', hq, hn, he, hd, H', t, df, nd, rfl⟩ := h
  cases x with
  | normal => exact hnext _ _ _ _ _ hq hn he hd H' t df nd
  | exit id => exact ⟨.exit id, tm', h', n', ρ', own', hq, hn, he, hd, H', t, df, nd, rfl⟩
  | ret => exact ⟨.ret, tm', h', n', ρ', own', hq, hn, he, hd, H', t, df, nd, rfl⟩

theorem boolV_ok {ρ : Nam} {v u : Value} {t : Bool} (e : boolV v = some t) (h : VR ρ v u) : u = .bool t := by
  unfold boolV at e
  split at e
  · cases e; cases h; rfl
  · cases e

theorem region_post {B : Nat} {w0 : World} {out own : List Nat} {ρ : Nam} {n nt : Nat} {Q : Ex × Tr Value → Tr AObj → Nat → Prop} {a a' : Act} {w' : World} (hdf : a.defers = own.map mk) (hap : Apt own out)
    (h : PostT B w0 (own ++ out) ρ n nt (fun tm h n => Q (.normal, tm) h n) a a' w') : CPost B w0 out ρ n nt Q .normal a' w' := by
  obtain ⟨hd, tm', h', n', ρ', hq, hn, he, hD, H', t⟩ := h
  exact ⟨.normal, tm', h', n', ρ', own, hq, hn, he, hD, H', t, hd.trans hdf, hap, rfl⟩

theorem range_wp (hc : CallOK P (callG T ex)) {B : Nat} {w0 : World} {out own : List Nat} {ρ : Nam} {h : Tr AObj} {n N nt : Nat} {w : World} {Q : Ex × Tr Value → Tr AObj → Nat → Prop} {g : Operand} {ps : Array Tmp} {assign body : Code} {tm : Tr Value} {a : Act}
    (hcl : ∀ f args, Loc (callG T ex f args)) (hm : MW (rangeG (callG T ex) nt g ps.toList assign body tm) h n Q) (hN : ∀ v h' n', Q v h' n' → n' ≤ N) (hF : Fresh ρ n N) (hB : B ≤ w0.heap.size) (H : HR B w0 (own ++ out) ρ h w) (hTR : TR ρ nt tm a.tmps)
    (hdf : a.defers = own.map mk) (hap : Apt own out) : (Code.rangeFunc g ps assign body).wpIn (Fr none) 0 P (CPost B w0 out ρ n nt Q) a w := by
  unfold rangeG at hm
  rw [MW.opt] at hm
  obtain ⟨v, hv, hm⟩ := hm
  have hva := ev_ok hTR hv
  unfold rangeV at hm
  split at hm
  · rename_i f first cap
    generalize hf : a.eval g = fv at hva
    cases hva with
    | @fn _ fa fb ca cb h1 h2 h3 h4 =>
      rw [MW.grd] at hm
      obtain ⟨hnr, hm⟩ := hm
      rw [Bool.and_eq_true] at hnr
      rw [MW.bind] at hm
      refine wpIn_rangeFunc ?_
      intro fn _
      obtain ⟨L0, hL0⟩ : ∃ L0 : Loop, L0 = { state := .ready, pending := none, fn, tmps := a.tmps, params := ps, assign, body, defers := w.heap.size } := ⟨_, rfl⟩
      have H1 := H.defer hB
      have hnew := new_ok (b := w.heap.size + 1) (s := 0) (w' := (w.alloc (.deferred (some []))).alloc (.loop L0)) hm (N := N) (fun l h' n' hq => by
          have hloc : Loc (M.bind (callG T ex f (fa ++ [.func (.yield l) #[] #[]] ++ ca)) fun _ => M.bind (loopM l) fun s => M.grd (!s.busy) fun _ => M.bind (M.kill l) fun _ => M.pure (s.pend, tm)) :=
            .bind (hcl _ _) fun _ => .bind (.loopM _) fun s => .grd (.bind (.kill _) fun _ => .pure _)
          exact MW.top hq hloc hN) hF hB H1 (grown_alloc _ _) (by simp) (by simp) (fun ρ' he => by
          have := World.alloc_heap_new (w.alloc (.deferred (some []))) (.loop L0)
          rw [World.size_alloc] at this
          rw [this]
          refine or_loop (s := ⟨nt, tm, ps.toList, assign, body, .normal, false⟩) ⟨?_, ?_, ?_, ?_, ?_, ?_, ?_, hnr⟩ <;> subst hL0
          · rfl
          · rfl
          · rfl
          · rfl
          · intro _ h; cases h
          · intro _ _; rfl
          · exact hTR.mono he)
      obtain ⟨h', hq, he, hd, H2⟩ := hnew
      rw [MW.bind] at hq
      have hargs : VRs (upd ρ n (w.heap.size + 1, 0)) (fa ++ [.func (.yield n) #[] #[]] ++ ca) (fb ++ [.func (.yield (w.heap.size + 1)) #[] #[]] ++ cb) :=
        ((VRs.mono he ⟨h1, h2⟩).append (.one (.yld (upd_self _ _ _)))).append (VRs.mono he ⟨h3, h4⟩)
      have hloc2 : ∀ v : Value, Loc (M.bind (loopM n) fun s => M.grd (!s.busy) fun _ => M.bind (M.kill n) fun _ => M.pure (s.pend, tm)) := fun _ => .bind (.loopM _) fun s => .grd (.bind (.kill _) fun _ => .pure _)
      obtain ⟨⟨gfn, hgfn⟩, hcall⟩ := hc hq (N := N) (fun v h' n' hq => MW.top hq (hloc2 v) hN) (hF.on hd (Nat.le_succ _)) hB H2 hargs
      refine ⟨w.heap.size + 1, [mk w.heap.size], (w.alloc (.deferred (some []))).alloc (.loop L0), { target := .fn (.func f) ⟨cb⟩, args := ⟨fb⟩ ++ #[.func (.yield (w.heap.size + 1)) #[] #[]] }, (w.alloc (.deferred (some []))).alloc (.loop L0), f,
        ⟨fb ++ [.func (.yield (w.heap.size + 1)) #[] #[]] ++ cb⟩, (w.alloc (.deferred (some []))).alloc (.loop L0), ?_, ?_, fun _ _ => trivial, ?_, fun h => (by cases h), ?_⟩
      · rw [hL0]; exact run_enterLoop_outer _ _ _ _ _
      · simp only [resolve, hf, Deferred.ofValue]
        simp [Act.eval]
      · simp only [invoke]
        have := hgfn.enter (⟨fb⟩ ++ #[.func (.yield (w.heap.size + 1)) #[] #[]] ++ ⟨cb⟩) ((w.alloc (.deferred (some []))).alloc (.loop L0))
        rw [this]
        simp
      · refine CallsIn.mono (show CallsIn (Fr none) 0 P f _ _ _ from hcall) ?_
        rintro e w3 ⟨u, rfl, v3, h3', n3, ρ3, hq3, hn3, he3, hd3, H3, hvu⟩
        rw [MW.bind] at hq3
        obtain ⟨s, hs, hq3⟩ := loopM_ok hq3
        rw [MW.grd] at hq3
        obtain ⟨hbusy, hq3⟩ := hq3
        rw [MW.bind, MW.kill] at hq3
        obtain ⟨_, hlt, hq3⟩ := hq3
        have hρ3 : ρ3 n = some (w.heap.size + 1, 0) := he3 _ _ (upd_self _ _ _)
        obtain ⟨b4, s4, hρ4, hO⟩ := H3.obj _ _ hs
        rw [hρ3] at hρ4
        cases hρ4
        obtain ⟨L, hL, hR⟩ := loop_or hO
        have hend := run_endLoop (P := P) hL (hR.free (by simpa using hbusy))
        have H4 := H3.kill hB hs hρ3 hlt (grown_putObj w3 (w.heap.size + 1) (.loop { L with state := .exhausted }))
        have hap' : Apt (w.heap.size :: own) out := by
          refine ⟨List.nodup_cons.2 ⟨fun hmem => ?_, hap.1⟩, fun D hD => ?_⟩
          · have := (Array.getElem?_eq_some_iff.1 (H.ds _ (List.mem_append_left _ hmem)).1).1
            omega
          · rcases List.mem_cons.1 hD with rfl | hD
            · intro hmem
              have := (Array.getElem?_eq_some_iff.1 (H.ds _ (List.mem_append_right _ hmem)).1).1
              omega
            · exact hap.2 D hD
        have hpost : CPost B w0 out ρ n nt Q (exOf s.pend) { a with defers := [mk w.heap.size] ++ a.defers } (w3.putObj (w.heap.size + 1) (.loop { L with state := .exhausted })) :=
          ⟨s.pend, tm, _, n3, ρ3, w.heap.size :: own, hq3, Nat.le_trans (Nat.le_succ _) hn3, he.trans he3, hd.trans hd3 (Nat.le_succ _) hn3, H4, hTR.mono (he.trans he3), by simp [hdf], hap', rfl⟩
        refine ⟨_, _, hend, ?_⟩
        rw [hR.pend] at hpost ⊢
        cases hsp : s.pend with
        | normal => rw [hsp] at hpost; exact hpost
        | exit id => rw [hsp] at hpost; exact wpIn_exit hpost
        | ret => rw [hsp] at hpost; exact wpIn_ret hpost
  · exact hm.elim

theorem codeM_ok (hM : P.follows .mixedOrders = true) (hT : TabOK P T) (hO : OvOK P T) (hOl : ∀ f m args, T.ov f = some m → Loc (m args)) (hl : ∀ nt c tm, Loc (ex nt c tm)) (hex : CodeOK P ex) : CodeOK P (codeM T ex) := by
  intro B w0 out own ρ h n N nt w Q c tm a ro hm hN hF hB H hTR hdf hap hro
  have HC : CallOK P (callG T ex) := callG_ok hT hO hl hex
  have HY : YieldOK P (yieldG ex) := yieldG_ok hl hex
  have hcl := Loc.callG (T := T) hOl hl
  have hyl := Loc.yieldG (ex := ex) hl
  have hloop : ∀ b, c = .loop b → LoopW (Fr ro) 0 P b (CPost B w0 out ρ n nt Q) a w := fun b e => by
    subst e
    have hm : MW (M.bind (ex nt b tm) (thenM (ex nt (.loop b)))) h n Q := hm
    rw [MW.bind] at hm
    refine loopW_of ?_
    refine wpIn_mono (hex hm (fun v h' n' hq => hq.top (loc_then (hl _ _) v) hN) hF hB H hTR hdf hap hro).1 fun e a' w' hp => ?_
    refine then_post hp fun tm' h' n' ρ' own' hq hn he hd H' t df nd => ?_
    exact loopW_mono ((hex hq hN (hF.on hd hn) hB H' t df nd hro).2 b rfl) fun _ _ _ hp => hp.on hn he hd
  refine ⟨?_, hloop⟩
  unfold codeM at hm
  split at hm
  -- skip
  · exact wpIn_skip ⟨.normal, tm, h, n, ρ, own, hm, Nat.le_refl _, Ext.refl _, Dom.refl _ _, H, hTR, hdf, hap, rfl⟩
  -- region
  · rw [MW.bind] at hm
    exact wpIn_region_list (ops_ok hT HC HY hcl hyl (fun v h' n' hq => hN _ _ _ hq) hB hm hF H hTR fun a' w' hp => region_post hdf hap hp)
  · rw [MW.bind] at hm
    exact draw_ok hM hT HC HY hcl hyl hB hm (fun v h' n' hq => hN _ _ _ hq) hF H hTR fun a' w' hp => region_post hdf hap hp
  -- seq
  · rename_i x y
    rw [MW.bind] at hm
    have hro' : (ro = none ∨ noRange x = true) ∧ (ro = none ∨ noRange y = true) := by
      rcases hro with h | h
      · exact ⟨.inl h, .inl h⟩
      · have h : (noRange x && noRange y) = true := h
        rw [Bool.and_eq_true] at h
        exact ⟨.inr h.1, .inr h.2⟩
    refine wpIn_seq ?_
    refine wpIn_mono (hex hm (fun v h' n' hq => hq.top (loc_then (hl _ _) v) hN) hF hB H hTR hdf hap hro'.1).1 fun e a' w' hp => ?_
    refine then_post hp fun tm' h' n' ρ' own' hq hn he hd H' t df nd => ?_
    exact wpIn_mono (hex hq hN (hF.on hd hn) hB H' t df nd hro'.2).1 fun _ _ _ hp => hp.on hn he hd
  -- cond
  · rename_i x c1 c2
    rw [MW.opt] at hm
    obtain ⟨v, hv, hm⟩ := hm
    rw [MW.opt] at hm
    obtain ⟨t, ht, hm⟩ := hm
    refine wpIn_cond (boolV_ok ht (ev_ok hTR hv)) ?_
    have hro' : ro = none ∨ noRange (bif t then c1 else c2) = true := by
      rcases hro with h | h
      · exact .inl h
      · have h : (noRange c1 && noRange c2) = true := h
        rw [Bool.and_eq_true] at h
        cases t
        · exact .inr h.2
        · exact .inr h.1
    have := (hex hm hN hF hB H hTR hdf hap hro').1
    cases t
    · exact this
    · exact this
  -- block
  · rename_i id c1
    rw [MW.bind] at hm
    have hro' : ro = none ∨ noRange c1 = true := hro
    refine wpIn_block ?_
    have hli : ∀ p, Loc (inBlock id p) := fun p => by
      unfold inBlock
      split <;> exact .pure _
    refine wpIn_mono (hex hm (fun v h' n' hq => hq.top (hli v) hN) hF hB H hTR hdf hap hro').1 fun e a' w' hp => ?_
    obtain ⟨x, tm', h', n', ρ', own', hq, hn, he, hd, H', t, df, nd, rfl⟩ := hp
    cases x with
    | normal => exact ⟨.normal, tm', h', n', ρ', own', hq, hn, he, hd, H', t, df, nd, rfl⟩
    | ret => exact ⟨.ret, tm', h', n', ρ', own', hq, hn, he, hd, H', t, df, nd, rfl⟩
    | exit j =>
      have hq : Q (bif Nat.beq j id then .normal else .exit j, tm') h' n' := hq
      show (if j = id then _ else _)
      by_cases e : j = id
      · subst e
        have : Nat.beq j j = true := Nat.beq_refl j
        rw [if_pos rfl]
        rw [this] at hq
        exact ⟨.normal, tm', h', n', ρ', own', hq, hn, he, hd, H', t, df, nd, rfl⟩
      · have : Nat.beq j id = false := by
          cases hb : Nat.beq j id with
          | false => rfl
          | true => exact absurd (Nat.eq_of_beq_eq_true hb) e
        rw [if_neg e]
        rw [this] at hq
        exact ⟨.exit j, tm', h', n', ρ', own', hq, hn, he, hd, H', t, df, nd, rfl⟩
  -- loop
  · exact wpIn_of_loopW (hloop _ rfl)
  -- rangeFunc
  · rcases hro with rfl | h
    · exact range_wp HC hcl hm hN hF hB H hTR hdf hap
    · exact absurd h (by intro h; cases (show false = true from h))
  -- exit, ret
  · exact wpIn_exit ⟨.exit _, tm, h, n, ρ, own, hm, Nat.le_refl _, Ext.refl _, Dom.refl _ _, H, hTR, hdf, hap, rfl⟩
  · exact wpIn_ret ⟨.ret, tm, h, n, ρ, own, hm, Nat.le_refl _, Ext.refl _, Dom.refl _ _, H, hTR, hdf, hap, rfl⟩
  · exact hm.elim
  · exact wpIn_label ⟨.normal, tm, h, n, ρ, own, hm, Nat.le_refl _, Ext.refl _, Dom.refl _ _, H, hTR, hdf, hap, rfl⟩
  · exact hm.elim

/-- THE MACHINE IS SOUND. -/
theorem exec_ok (hM : P.follows .mixedOrders = true) (hT : TabOK P T) (hO : OvOK P T) (hOl : ∀ f m args, T.ov f = some m → Loc (m args)) : ∀ f, CodeOK P (exec T f)
  | 0 => by
    intro hm
    exact hm.elim
  | f + 1 => codeM_ok hM hT hO hOl (Loc.exec hOl f) (exec_ok hM hT hO hOl f)

/-- A call of the machine's is a call of the model's. -/
theorem exec_calls (hM : P.follows .mixedOrders = true) (hT : TabOK P T) (hO : OvOK P T) (hOl : ∀ f m args, T.ov f = some m → Loc (m args)) (f : Nat) : CallOK P (callG T (exec T f)) :=
  callG_ok hT hO (Loc.exec hOl f) (exec_ok hM hT hO hOl f)
end
end Go.IM
