/- The leaner machine and the model: code, calls, rounds. -/
import Derived.Test.YtamhdelomchleaaGreatJ5
set_option linter.unusedVariables false
set_option linter.unusedSimpArgs false
namespace Go.IM
open Go.RowKit

def Apt (own out : List Nat) : Prop := own.Nodup ∧ ∀ D ∈ own, D ∉ out
theorem apt_nil {out : List Nat} : Apt [] out := ⟨List.nodup_nil, by simp⟩

def mk (D : Nat) : Deferred := { target := .collected D, args := #[] }

def exOf : Ex → Exit
  | .normal => .normal
  | .exit id => .exit id
  | .ret => .ret

def CPost (B : Nat) (w0 : World) (out : List Nat) (ρ : Nam) (n nt : Nat) (Q : Ex × Tr Value → Tr AObj → Nat → Prop) (e : Exit) (a' : Act) (w' : World) : Prop :=
  ∃ x tm' h' n' ρ' own', Q (x, tm') h' n' ∧ n ≤ n' ∧ Ext ρ ρ' ∧ Dom ρ ρ' n n' ∧ HR B w0 (own' ++ out) ρ' h' w' ∧ TR ρ' nt tm' a'.tmps ∧ a'.defers = own'.map mk ∧ Apt own' out ∧ e = exOf x

theorem CPost.on {B : Nat} {w0 : World} {out : List Nat} {ρ ρ' : Nam} {n n' nt : Nat} {Q : Ex × Tr Value → Tr AObj → Nat → Prop} {e : Exit} {a' : Act} {w' : World} (hn : n ≤ n') (he : Ext ρ ρ') (hd : Dom ρ ρ' n n')
    (h : CPost B w0 out ρ' n' nt Q e a' w') : CPost B w0 out ρ n nt Q e a' w' := by
  obtain ⟨x, tm', h', m, ρ2, own', hq, hm, he2, hd2, H, t, d, nd, ex⟩ := h
  exact ⟨x, tm', h', m, ρ2, own', hq, Nat.le_trans hn hm, he.trans he2, hd.trans hd2 hn hm, H, t, d, nd, ex⟩

/-- Code: wherever it is well, the machine goes through it. -/
def CodeOK (P : Program) (ex : Exec) : Prop :=
  ∀ {B : Nat} {w0 : World} {out own : List Nat} {ρ : Nam} {h : Tr AObj} {n N nt : Nat} {w : World} {Q : Ex × Tr Value → Tr AObj → Nat → Prop} {c : Code} {tm : Tr Value} {a : Act} {ro : Option Nat},
    MW (ex nt c tm) h n Q → (∀ v h' n', Q v h' n' → n' ≤ N) → Fresh ρ n N → B ≤ w0.heap.size → HR B w0 (own ++ out) ρ h w → TR ρ nt tm a.tmps → a.defers = own.map mk → Apt own out → (ro = none ∨ noRange c = true) →
    c.wpIn (Fr ro) 0 P (CPost B w0 out ρ n nt Q) a w ∧ ∀ b, c = .loop b → LoopW (Fr ro) 0 P b (CPost B w0 out ρ n nt Q) a w

/-- What is taken by a contract. -/
def OvOK (P : Program) (T : Tab) : Prop :=
  ∀ g m, T.ov g = some m → (∃ fn, FnOK P g fn) ∧ ∀ {B : Nat} {w0 : World} {Ds : List Nat} {ρ : Nam} {h : Tr AObj} {n N : Nat} {w : World} {Q : Value → Tr AObj → Nat → Prop} {args as : List Value},
    MW (m args) h n Q → (∀ v h' n', Q v h' n' → n' ≤ N) → Fresh ρ n N → B ≤ w0.heap.size → HR B w0 Ds ρ h w → VRs ρ args as →
    CallsIn Fence.wide 0 P g ⟨as⟩ w fun e w' => ∃ u, e = .returned u ∧ Post B w0 Ds ρ n Q u w'

section
variable {P : Program} {T : Tab} {ex : Exec}

/-- The marks are come to, one after the other. -/
theorem leaves_ok {fn : Func} {nt : Nat} {tm : Tr Value} {ts : Array Value} {x : Ex} {R : Ending → World → Prop} {Q : Value → Tr AObj → Nat → Prop} (hT : TabOK P T) {B : Nat} {w0 : World} {out : List Nat} {ρ : Nam} {h : Tr AObj} {n : Nat} (hB : B ≤ w0.heap.size) (hTR : TR ρ nt tm ts)
    (hm : MW (finM T fn (x, tm)) h n Q) (hR : ∀ v u w', Q v h n → VR ρ v u → HR B w0 out ρ h w' → R (.returned u) w') : ∀ {own : List Nat} {w : World}, HR B w0 (own ++ out) ρ h w → Apt own out → LeavesInM Fence.wide 0 P fn ts R (own.map mk) .returning w
  | [], w, H, _ => by
    obtain ⟨_, v, u, hq, hv, hr⟩ := results_ok hT H hTR hm
    show ∃ v, _
    exact ⟨u, hr, hR v u w hq hv H⟩
  | D :: own, w, H, ⟨hnd, hout⟩ => by
    have hD := H.ds D (by simp)
    have hnd' := List.nodup_cons.1 hnd
    have htake := run_takeDeferred (P := P) hD.1
    refine ⟨by simp, .inl ⟨D, _, rfl, htake, ?_⟩⟩
    refine leaves_ok hT hB hTR hm hR (H.close hB (fun hm => ?_) (grown_putObj _ _ _)) ⟨hnd'.2, fun E hE => hout E (List.mem_cons_of_mem _ hE)⟩
    rcases List.mem_append.1 hm with h1 | h1
    · exact hnd'.1 h1
    · exact hout D (by simp) h1

theorem body_ok (hT : TabOK P T) (hl : ∀ nt c tm, Loc (ex nt c tm)) (hex : CodeOK P ex) {B : Nat} {w0 : World} {Ds : List Nat} {ρ : Nam} {h : Tr AObj} {n N : Nat} {w : World} {Q : Value → Tr AObj → Nat → Prop} {g : FuncId} {fn : Func} {args as : List Value}
    (hfn : FnOK P g fn) (hm : MW (bodyM T ex fn args) h n Q) (hN : ∀ v h' n', Q v h' n' → n' ≤ N) (hF : Fresh ρ n N) (hB : B ≤ w0.heap.size) (H : HR B w0 Ds ρ h w) (hv : VRs ρ args as) :
    CallsIn Fence.wide 0 P g ⟨as⟩ w fun e w' => ∃ u, e = .returned u ∧ Post B w0 Ds ρ n Q u w' := by
  unfold bodyM at hm
  rw [MW.grd] at hm
  obtain ⟨hg, hm⟩ := hm
  simp only [Bool.and_eq_true, Nat.ble_eq] at hg
  rw [MW.opt] at hm
  obtain ⟨c, hc, hm⟩ := hm
  rw [MW.bind] at hm
  refine callsIn_of_wp_marks hfn.1 hc trivial ?_
  have hloc := fun p => (show Loc (finM T fn p) from by
    unfold finM
    split
    · exact .fail
    · exact .bind (.resM _ _ _) fun _ => .pure _)
  refine wpIn_mono (hex (own := []) (out := Ds) (ro := none) hm (fun v h' n' hq => hq.top (hloc v) hN) hF hB H (enter_tr hv hg.1 hg.2) rfl apt_nil (.inl rfl)).1 ?_
  rintro e a' w' ⟨x, tm', h', n', ρ', own', hq, hn, he, hd, H', t, df, nd, rfl⟩
  obtain ⟨hnx, _⟩ := results_ok hT H' t hq
  have hleave : LeavesInM Fence.wide 0 P fn a'.tmps (fun e w' => ∃ u, e = .returned u ∧ Post B w0 Ds ρ n Q u w') a'.defers .returning w' := by
    rw [df]
    exact leaves_ok hT hB t hq (fun v u w2 hq2 hvu H2 => ⟨u, rfl, v, h', n', ρ', hq2, hn, he, hd, H2, hvu⟩) H' nd
  cases x with
  | normal => exact hleave
  | ret => exact hleave
  | exit id => exact absurd rfl (hnx id)

theorem callG_ok (hT : TabOK P T) (hO : OvOK P T) (hl : ∀ nt c tm, Loc (ex nt c tm)) (hex : CodeOK P ex) : CallOK P (callG T ex) := by
  intro B w0 Ds ρ h n N w Q g args as hm hN hF hB H hv
  unfold callG at hm
  cases hov : T.ov g with
  | some m =>
    rw [hov] at hm
    obtain ⟨h1, h2⟩ := hO g m hov
    exact ⟨h1, h2 hm hN hF hB H hv⟩
  | none =>
    rw [hov] at hm
    simp only at hm
    rw [MW.opt] at hm
    obtain ⟨fn, hfn, hm⟩ := hm
    have hfok := hT.fn g fn hfn
    refine ⟨⟨fn, hfok⟩, ?_⟩
    cases hu : T.un g with
    | false =>
      rw [hu] at hm
      exact body_ok hT hl hex hfok hm hN hF hB H hv
    | true =>
      rw [hu] at hm
      have hm : Res.All Q (bodyM T ex fn args h n).unite := hm
      rcases unite_form (bodyM T ex fn args h n) with e | ⟨a, g', m, r, w1, e⟩
      · rw [e] at hm; exact hm.elim
      · rw [e] at hm
        have hm : Q a g' m := hm
        have hall := unite_all ((Loc.bodyM (T := T) hl fn args).fr h n) e
        have hm2 : MW (bodyM T ex fn args) h n fun a' g'' m' => a' = a ∧ m' = m ∧ SubT g' g'' := hall
        refine CallsIn.mono (body_ok hT hl hex hfok hm2 (N := N) (fun v h' n' hq => by rw [hq.2.1]; exact hN _ _ _ hm) hF hB H hv) ?_
        rintro e w' ⟨u, rfl, v, h', n', ρ', ⟨rfl, rfl, hs⟩, hn, he, hd, H', hvu⟩
        exact ⟨u, rfl, v, g', n', ρ', hm, hn, he, hd, H'.sub hs, hvu⟩

theorem loopV_ok {o : AObj} {s : LoopR} (e : loopV o = some s) : o = s.obj := by
  unfold loopV at e
  split at e
  · cases e; rfl
  · cases e
theorem loopM_ok {l : Nat} {h : Tr AObj} {n : Nat} {Q : LoopR → Tr AObj → Nat → Prop} (hm : MW (loopM l) h n Q) : ∃ s, h.get l = some s.obj ∧ Q s h n := by
  unfold loopM at hm
  rw [MW.bind, MW.rd] at hm
  obtain ⟨o, ho, hm⟩ := hm
  rw [MW.opt] at hm
  obtain ⟨s, hs, hm⟩ := hm
  exact ⟨s, by rw [ho, loopV_ok hs], hm⟩
theorem loop_or {ρ : Nam} {s : LoopR} {k : Nat} {c : Option Obj} (h : OR ρ s.obj k c) : ∃ L, c = some (.loop L) ∧ LR ρ s L := h
theorem or_loop {ρ : Nam} {s : LoopR} {k : Nat} {L : Loop} (h : LR ρ s L) : OR ρ s.obj k (some (.loop L)) := ⟨L, rfl, h⟩

theorem jump_normal {x : Ex} : (pcode x).isNone = isNormal x := by cases x <;> rfl

theorem yieldG_ok (hl : ∀ nt c tm, Loc (ex nt c tm)) (hex : CodeOK P ex) : YieldOK P (yieldG ex) := by
  intro B w0 Ds ρ h n N w Q l b s0 args as hm hN hF hB H hρ hv
  unfold yieldG at hm
  rw [MW.bind] at hm
  obtain ⟨s, hs, hm⟩ := loopM_ok hm
  rw [MW.opt] at hm
  obtain ⟨tm1, ht1, hm⟩ := hm
  obtain ⟨b2, s2, hρ2, hO⟩ := H.obj _ _ hs
  rw [hρ] at hρ2
  cases hρ2
  obtain ⟨L, hL, hR⟩ := loop_or hO
  obtain ⟨hlen, htr⟩ := setPs_ok ht1 hv hR.tmps
  have hsz : (⟨as⟩ : Array Value).size = L.params.size := by rw [hR.params]; simpa using hlen
  have hy := run_yield (P := P) (args := ⟨as⟩) hL hsz
  have hfold : ((L.params.zip ⟨as⟩).foldl (fun tmps (t, a) => tmps.setIfInBounds t a) L.tmps) = ((s.ps.zip as).foldl (fun (tmps : Array Value) (p : Tmp × Value) => tmps.setIfInBounds p.1 p.2) L.tmps) := by
    rw [hR.params]
    simp
  rw [hfold] at hy
  refine ⟨_, _, _, _, hy, ?_⟩
  rw [MW.bind] at hm
  refine roundIn_of_wpIn (F := Fence.wide) trivial ?_
  have hnr := hR.nr
  rw [← hR.assign, ← hR.body] at hnr
  rw [← hR.assign] at hm
  have locW : ∀ o, Loc (M.wr l o) := fun o => .wr _ _
  have loc3 : ∀ q : Ex × Tr Value, Loc (M.bind (loopM l) fun s3 => M.bind (M.wr l { s3 with pend := q.1, busy := false }.obj) fun _ => M.pure (Value.bool (isNormal q.1))) := fun q => .bind (.loopM _) fun s3 => .bind (.wr _ _) fun _ => .pure _
  have loc2 : ∀ p : Ex × Tr Value, Loc (M.grd (isNormal p.1) fun _ => M.bind (loopM l) fun s2 => M.grd (isNormal s2.pend && !s2.busy) fun _ => M.bind (M.wr l { s2 with busy := true }.obj) fun _ =>
      M.bind (ex s.nt s.body p.2) fun q => M.bind (loopM l) fun s3 => M.bind (M.wr l { s3 with pend := q.1, busy := false }.obj) fun _ => M.pure (Value.bool (isNormal q.1))) := fun p =>
    .grd (.bind (.loopM _) fun s2 => .grd (.bind (.wr _ _) fun _ => .bind (hl _ _ _) fun q => loc3 q))
  refine wpIn_mono (hex (own := []) (out := Ds) (ro := some b) hm (fun v h' n' hq => hq.top (loc2 v) hN) hF hB H htr rfl apt_nil (.inr hnr.1)).1 ?_
  rintro e a1 w1 ⟨x, tm2, h1, n1, ρ1, own1, hq, hn, he, hd, H1, t1, df, nd, rfl⟩
  rw [MW.grd] at hq
  obtain ⟨hx, hq⟩ := hq
  cases x with
  | exit id => cases hx
  | ret => cases hx
  | normal =>
    rw [MW.bind] at hq
    obtain ⟨s2, hs2, hq⟩ := loopM_ok hq
    rw [MW.grd] at hq
    obtain ⟨hg, hq⟩ := hq
    simp only [Bool.and_eq_true, Bool.not_eq_true'] at hg
    rw [MW.bind, MW.wr] at hq
    obtain ⟨_, hlt, hq⟩ := hq
    have hρ1 := he _ _ hρ
    obtain ⟨b3, s3, hρ3, hO2⟩ := H1.obj _ _ hs2
    rw [hρ1] at hρ3
    cases hρ3
    obtain ⟨L2, hL2, hR2⟩ := loop_or hO2
    have hready := hR2.ready hg.2 hg.1
    refine ⟨_, run_beginRound hL2 hready, ?_⟩
    have hR2' : LR ρ1 { s2 with busy := true } { L2 with state := .busy } := ⟨hR2.params, hR2.assign, hR2.body, hR2.pend, fun h => (by cases h), fun h => (by cases h), hR2.tmps, hR2.nr⟩
    have H2 : HR B w0 (own1 ++ Ds) ρ1 (h1.set 20 l (some { s2 with busy := true }.obj)) (w1.putObj b (.loop { L2 with state := .busy })) :=
      H1.write hB _ hs2 hρ1 hlt (grown_putObj _ _ _) (by rw [World.putObj_heap_same (Array.getElem?_eq_some_iff.1 hL2).1]; exact or_loop hR2')
    rw [MW.bind] at hq
    rw [← hR.body] at hq
    refine wpIn_mono (hex (own := own1) (out := Ds) (ro := some b) hq (fun v h' n' hq => hq.top (loc3 v) hN) (hF.on hd hn) hB H2 t1 df nd (.inr hnr.2)).1 ?_
    rintro e a3 w3 ⟨x, tm3, h3, n3, ρ3, own3, hq, hn3, he3, hd3, H3, t3, df3, nd3, rfl⟩
    rw [MW.bind] at hq
    obtain ⟨s3, hs3, hq⟩ := loopM_ok hq
    rw [MW.bind, MW.wr] at hq
    obtain ⟨_, _, hq⟩ := hq
    have hρ3 := he3 _ _ hρ1
    obtain ⟨b4, s4, hρ4, hO3⟩ := H3.obj _ _ hs3
    rw [hρ3] at hρ4
    cases hρ4
    obtain ⟨L3, hL3, hR3⟩ := loop_or hO3
    have hend := run_endRound (P := P) (pcode x) hL3
    have hR3' : LR ρ3 { s3 with pend := x, busy := false } { L3 with state := if (pcode x).isNone then .ready else .done, pending := pcode x } :=
      ⟨hR3.params, hR3.assign, hR3.body, rfl, fun _ => (by cases x <;> simp [pcode]), fun _ h => (by cases x <;> first | rfl | cases h), hR3.tmps, hR3.nr⟩
    have H4 : HR B w0 Ds ρ3 (h3.set 20 l (some { s3 with pend := x, busy := false }.obj)) (w3.putObj b (.loop { L3 with state := if (pcode x).isNone then .ready else .done, pending := pcode x })) :=
      (H3.less fun D hD => List.mem_append_right _ hD).write hB _ hs3 hρ3 hlt (grown_putObj _ _ _) (by rw [World.putObj_heap_same (Array.getElem?_eq_some_iff.1 hL3).1]; exact or_loop hR3')
    have hp : Post B w0 Ds ρ n Q (.bool (pcode x).isNone) (w3.putObj b (.loop { L3 with state := if (pcode x).isNone then .ready else .done, pending := pcode x })) :=
      ⟨_, _, n3, ρ3, hq, Nat.le_trans hn hn3, he.trans he3, hd.trans hd3 hn hn3, H4, by rw [jump_normal]; exact .bool _⟩
    cases x with
    | normal => exact ⟨_, _, hend, _, rfl, hp⟩
    | ret => exact ⟨_, _, hend, _, rfl, hp⟩
    | exit id => exact ⟨_, _, hend, _, rfl, hp⟩
end
end Go.IM
