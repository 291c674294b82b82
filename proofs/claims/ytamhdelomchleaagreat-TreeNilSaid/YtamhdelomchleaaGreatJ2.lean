/- The leaner machine and the model: regions. -/
import Derived.Test.YtamhdelomchleaaGreatJ1
set_option linter.unusedVariables false
set_option linter.unusedSimpArgs false
namespace Go.IM
open Go.RowKit

theorem Res.all_fr {α : Type} {h0 : Tr AObj} {n0 : Nat} {Q : α → Tr AObj → Nat → Prop} : ∀ {x : Res α}, x.All Q → x.Fr h0 n0 → x.All fun a h n => Q a h n ∧ n0 ≤ n
  | .fail, h, _ => h.elim
  | .ok _ _ _ _ _, h, hf => ⟨h, hf.1⟩
  | .alt _ _, h, hf => ⟨Res.all_fr h.1 hf.1, Res.all_fr h.2 hf.2⟩
theorem MW.le {α : Type} {m : M α} {h : Tr AObj} {n : Nat} {Q : α → Tr AObj → Nat → Prop} (hm : MW m h n Q) (hl : Loc m) : MW m h n fun a h' n' => Q a h' n' ∧ n ≤ n' := Res.all_fr hm (hl.fr h n)
theorem MW.top {α : Type} {m : M α} {h : Tr AObj} {n N : Nat} {Q : α → Tr AObj → Nat → Prop} (hm : MW m h n Q) (hl : Loc m) (hN : ∀ a h' n', Q a h' n' → n' ≤ N) : n ≤ N := by
  obtain ⟨a, h', n', hq, hn⟩ := Res.all_some (hm.le hl)
  exact Nat.le_trans hn (hN _ _ _ hq)

section
variable {P : Program} {w : World} {ρ : Nam}

def PostT (B : Nat) (w0 : World) (Ds : List Nat) (ρ : Nam) (n nt : Nat) (Q : Tr Value → Tr AObj → Nat → Prop) (a a' : Act) (w' : World) : Prop :=
  a'.defers = a.defers ∧ ∃ tm' h' n' ρ', Q tm' h' n' ∧ n ≤ n' ∧ Ext ρ ρ' ∧ Dom ρ ρ' n n' ∧ HR B w0 Ds ρ' h' w' ∧ TR ρ' nt tm' a'.tmps

theorem put_tr {nt : Nat} {tm tm' : Tr Value} {a : Act} {dst : Option Tmp} {v u : Value} (e : putT nt tm dst v = some tm') (h : TR ρ nt tm a.tmps) (hv : VR ρ v u) : TR ρ nt tm' (a.put dst u).tmps ∧ (a.put dst u).defers = a.defers := by
  unfold putT at e
  cases dst with
  | none => cases e; exact ⟨h, rfl⟩
  | some d =>
    simp only at e
    cases hb : (Nat.blt d nt && Nat.blt d 65536) with
    | false => rw [hb] at e; cases e
    | true =>
      rw [hb] at e
      simp only [cond_true, Option.some.injEq] at e
      subst e
      simp only [Bool.and_eq_true, Nat.blt_eq] at hb
      refine ⟨⟨by simp [Act.put, h.1], fun t x hx => ?_⟩, rfl⟩
      rw [Tr.get_set20 _ _ _ _ hb.2] at hx
      simp only [Act.put]
      by_cases ht : t = d
      · subst ht
        rw [if_pos rfl] at hx
        cases hx
        exact ⟨u, by rw [Array.getElem?_setIfInBounds]; simp [h.1, hb.1], hv⟩
      · rw [if_neg ht] at hx
        obtain ⟨y, hy, hxy⟩ := h.2 t x hx
        exact ⟨y, by rw [Array.getElem?_setIfInBounds_ne (Ne.symm ht)]; exact hy, hxy⟩

theorem dstAt_ok {ops : Array Oper} {j : Nat} {d : Tmp} (h : dstAt ops.toList j = some d) : (ops[j]?).bind (·.dst) = some d := by
  unfold dstAt at h
  split at h
  · cases h
  · rename_i p l hd
    have : ops.toList[j]? = some p := by
      have := List.head?_drop (l := ops.toList) (i := j)
      rw [hd] at this
      exact this.symm
    rw [Array.getElem?_toList] at this
    rw [this]
    exact h

theorem wanted_ok {ops : Array Oper} {nt : Nat} {tm : Tr Value} {ts : Array Value} {o : Oper} {b : Bool} (h : TR ρ nt tm ts) (e : wanted ops.toList tm o.guard = some b) : Region.wanted o (yielded ops ts) = b := by
  unfold wanted at e
  unfold Region.wanted
  cases hg : o.guard with
  | none => rw [hg] at e; cases e; rfl
  | some p =>
    obtain ⟨j, want⟩ := p
    rw [hg] at e
    simp only at e ⊢
    cases hd : dstAt ops.toList j with
    | none => rw [hd] at e; cases e
    | some d =>
      rw [hd] at e
      simp only at e
      have hd' := dstAt_ok hd
      unfold yielded
      rw [hd']
      unfold isB at e
      split at e
      · rename_i q hq
        obtain ⟨u, hu, hvu⟩ := h.2 _ _ hq
        cases hvu
        cases e
        simp only [Option.bind_some, hu]
        cases q <;> cases want <;> rfl
      · rename_i v hnb hq
        obtain ⟨u, hu, hvu⟩ := h.2 _ _ hq
        cases e
        simp only [Option.bind_some, hu]
        cases hvu <;> first | rfl | exact absurd rfl (hnb _)
      · cases e

theorem step_ok {B : Nat} {w0 : World} {Ds : List Nat} {h : Tr AObj} {n N nt : Nat} {T : Tab} {call : Call} {yield : Yield} {tm : Tr Value} {ops : Array Oper} {o : Oper} {a : Act} {Q : Tr Value → Tr AObj → Nat → Prop} {ro : Option Nat} {K : Act → World → Prop} {QQ : Exit → Act → World → Prop}
    (hT : TabOK P T) (HC : CallOK P call) (HY : YieldOK P yield) (hm : MW (stepM T call yield nt ops.toList tm o) h n Q) (hN : ∀ v h' n', Q v h' n' → n' ≤ N) (hF : Fresh ρ n N) (hB : B ≤ w0.heap.size) (H : HR B w0 Ds ρ h w)
    (hTR : TR ρ nt tm a.tmps) (hK : ∀ a' w', PostT B w0 Ds ρ n nt Q a a' w' → K a' w') :
    if Region.wanted o (yielded ops a.tmps) = true then o.wpIn (Fr ro) 0 P a w K QQ else (∀ f, o.about P w a.eval = some f → (Fr ro).fn f) ∧ K (a.put o.dst undef) w := by
  unfold stepM at hm
  rw [MW.opt] at hm
  obtain ⟨b, hb, hm⟩ := hm
  rw [wanted_ok hTR hb]
  cases b with
  | true =>
    simp only [cond_true] at hm
    rw [if_pos rfl]
    rw [MW.bind] at hm
    refine opM_ok hT HC HY hm (fun v h' n' hq => ?_) hF hB H hTR (fun u w' hp => ?_)
    · rw [MW.opt] at hq
      obtain ⟨tm', _, hq⟩ := hq
      exact hN _ _ _ hq
    · obtain ⟨v, h', n', ρ', hq, hn, he, hd, H', hvu⟩ := hp
      rw [MW.opt] at hq
      obtain ⟨tm', hput, hq⟩ := hq
      obtain ⟨t1, t2⟩ := put_tr hput (hTR.mono he) hvu
      exact hK _ _ ⟨t2, tm', h', n', ρ', hq, hn, he, hd, H', t1⟩
  | false =>
    simp only [cond_false] at hm
    rw [if_neg (by simp)]
    rw [MW.opt] at hm
    obtain ⟨tm', hput, hq⟩ := hm
    obtain ⟨t1, t2⟩ := put_tr hput hTR (VR.undef)
    exact ⟨fun _ _ => trivial, hK _ _ ⟨t2, tm', h, n, ρ, hq, Nat.le_refl _, Ext.refl _, Dom.refl _ _, H, t1⟩⟩

theorem PostT.on {B : Nat} {w0 : World} {Ds : List Nat} {ρ ρ' : Nam} {n n' nt : Nat} {Q : Tr Value → Tr AObj → Nat → Prop} {a a' a'' : Act} {w' : World} (hd : a'.defers = a.defers) (hn : n ≤ n') (he : Ext ρ ρ') (hD : Dom ρ ρ' n n')
    (h : PostT B w0 Ds ρ' n' nt Q a' a'' w') : PostT B w0 Ds ρ n nt Q a a'' w' := by
  obtain ⟨h0, tm, h1, m, ρ2, hq, hm, he2, hD2, H, t⟩ := h
  exact ⟨h0.trans hd, tm, h1, m, ρ2, hq, Nat.le_trans hn hm, he.trans he2, hD.trans hD2 hn hm, H, t⟩

theorem ops_ok {B : Nat} {w0 : World} {Ds : List Nat} {nt N : Nat} {T : Tab} {call : Call} {yield : Yield} {ops : Array Oper} {Q : Tr Value → Tr AObj → Nat → Prop} {ro : Option Nat} {QQ : Exit → Act → World → Prop}
    (hT : TabOK P T) (HC : CallOK P call) (HY : YieldOK P yield) (hcl : ∀ f args, Loc (call f args)) (hyl : ∀ l args, Loc (yield l args)) (hN : ∀ v h' n', Q v h' n' → n' ≤ N) (hB : B ≤ w0.heap.size) :
    ∀ {l : List Oper} {h : Tr AObj} {n : Nat} {tm : Tr Value} {ρ : Nam} {a : Act} {w : World}, MW (opsM T call yield nt ops.toList l tm) h n Q → Fresh ρ n N → HR B w0 Ds ρ h w → TR ρ nt tm a.tmps →
      (∀ a' w', PostT B w0 Ds ρ n nt Q a a' w' → QQ .normal a' w') → wpListIn (Fr ro) 0 P ops QQ l a w
  | [], h, n, tm, ρ, a, w, hm, hF, H, hTR, hQ => hQ _ _ ⟨rfl, tm, h, n, ρ, hm, Nat.le_refl _, Ext.refl _, Dom.refl _ _, H, hTR⟩
  | o :: l, h, n, tm, ρ, a, w, hm, hF, H, hTR, hQ => by
    unfold opsM at hm
    rw [MW.bind] at hm
    have hloc := fun tm => Loc.opsM (T := T) hcl hyl nt ops.toList l tm
    unfold wpListIn
    refine step_ok hT HC HY hm (fun v h' n' hq => hq.top (hloc _) hN) hF hB H hTR (fun a' w' hp => ?_)
    obtain ⟨hd, tm', h', n', ρ', hq, hn, he, hD, H', t'⟩ := hp
    exact ops_ok hT HC HY hcl hyl hN hB hq (hF.on hD hn) H' t' fun a'' w'' hp => hQ _ _ (hp.on hd hn he hD)
end
end Go.IM
