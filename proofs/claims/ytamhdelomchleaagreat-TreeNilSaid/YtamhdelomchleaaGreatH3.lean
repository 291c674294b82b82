/- awake: its contract. -/
import Derived.Test.YtamhdelomchleaaGreatG0
import Derived.Test.YtamhdelomchleaaGreatG1
import Derived.Test.YtamhdelomchleaaGreatG2
import Derived.Test.YtamhdelomchleaaGreatG3
import Derived.Test.YtamhdelomchleaaGreatG4
import Derived.Test.YtamhdelomchleaaGreatG9
set_option linter.unusedVariables false
namespace Go.Proofs.YtamhdelomchleaaGreat
open Go.IM Go.RowKit

theorem tab0 : TabOK Tryz.prog T0 := ⟨ty_ok, fn_ok⟩
theorem tab1 : TabOK Tryz.prog T1 := ⟨ty_ok, fn_ok⟩

theorem ov0_at {f : FuncId} {m : List Value → M Value} (h : ov0 f = some m) : f = 157 ∧ m = canM := by
  unfold ov0 at h
  cases hb : Nat.beq f 157 with
  | false => rw [hb] at h; cases h
  | true => rw [hb] at h; cases h; exact ⟨Nat.eq_of_beq_eq_true hb, rfl⟩
theorem ov0_loc (f : FuncId) (m : List Value → M Value) (args : List Value) (h : T0.ov f = some m) : Go.IM.Loc (m args) := by
  obtain ⟨_, rfl⟩ := ov0_at h
  exact canM_loc args
theorem ov0_ok : OvOK Tryz.prog T0 := by
  intro g m h
  obtain ⟨rfl, rfl⟩ := ov0_at h
  exact ⟨⟨_, Tryz.func157, Tryz.call157⟩, fun hm hN hF hB H hv => can_ok hm hN hF hB H hv⟩

theorem M59_sure : ∀ e ∈ M59, Sure T0 300 59 e := by
  intro e he
  simp only [M59, List.mem_cons, List.mem_nil_iff, or_false] at he
  rcases he with rfl | rfl | rfl | rfl | rfl | rfl | rfl | rfl | rfl | rfl | rfl | rfl | rfl | rfl | rfl
  · exact sure_ok em0_sure
  · exact sure_ok em1_sure
  · exact sure_ok em2_sure
  · exact sure_ok em3_sure
  · exact sure_ok em4_sure
  · exact sure_ok em5_sure
  · exact sure_ok em6_sure
  · exact sure_ok em7_sure
  · exact sure_ok em8_sure
  · exact sure_ok em9_sure
  · exact sure_ok em10_sure
  · exact sure_ok em11_sure
  · exact sure_ok em12_sure
  · exact sure_ok em13_sure
  · exact sure_ok em14_sure

theorem ov1_at {f : FuncId} {m : List Value → M Value} (h : ov1 f = some m) : (f = 59 ∧ m = memoM M59) ∨ ov0 f = some m := by
  unfold ov1 at h
  cases hb : Nat.beq f 59 with
  | false => rw [hb] at h; exact .inr h
  | true => rw [hb] at h; cases h; exact .inl ⟨Nat.eq_of_beq_eq_true hb, rfl⟩
theorem ov1_loc (f : FuncId) (m : List Value → M Value) (args : List Value) (h : T1.ov f = some m) : Go.IM.Loc (m args) := by
  rcases ov1_at h with ⟨_, rfl⟩ | h
  · exact memo_loc M59_sure args
  · exact ov0_loc f m args h
theorem ov1_ok : OvOK Tryz.prog T1 := by
  intro g m h
  rcases ov1_at h with ⟨rfl, rfl⟩ | h
  · exact ⟨⟨_, Tryz.func59, Tryz.call59⟩, fun hm hN hF hB H hv => memo_ok M59_sure mixed tab0 ov0_ok ov0_loc ⟨_, Tryz.func59, Tryz.call59⟩ hm hN hF hB H hv⟩
  · exact ov0_ok g m h

theorem isT_ok {x : Res Value} (h : isT x = true) : ∃ g n r w, x = .ok (.bool true) g n r w := by
  unfold isT at h
  split at h
  · rename_i v g n r w
    rw [(veq_eq 10).1 _ _ h]
    exact ⟨g, n, r, w, rfl⟩
  · cases h
theorem mw_of {m : M Value} {h g : Tr AObj} {n k r w : Nat} {v : Value} (e : m h n = .ok v g k r w) : MW m h n fun v' h' n' => v' = v ∧ n' = k := by
  show Res.All _ (m h n)
  rw [e]
  exact ⟨rfl, rfl⟩
theorem mw_eq {m m' : M Value} {h : Tr AObj} {n : Nat} {Q : Value → Tr AObj → Nat → Prop} (e : m = m') (hm : MW m h n Q) : MW m' h n Q := by rw [← e]; exact hm

/-- A closed run that says yes. -/
theorem closed_calls {P : Program} {T : Tab} {f : Nat} {g : FuncId} {n : Nat} (hM : P.follows .mixedOrders = true) (hT : TabOK P T) (hO : OvOK P T) (hOl : ∀ f m args, T.ov f = some m → Go.IM.Loc (m args))
    (hm : MW (callG T (exec T f) g []) .nil 0 fun v h' n' => v = .bool true ∧ n' = n) (w : World) : Calls P g #[] w fun e w' => e = .returned (.bool true) ∧ Below w.heap.size w w' := by
  have H : HR w.heap.size w [] (fun _ => none) .nil w :=
    ⟨fun i o hi => (by rw [Tr.get_nil] at hi; cases hi), fun i j b s s' h1 => (by rw [Tr.get_nil] at h1; cases h1), fun i b s hi => (by cases hi), Below.refl _ _, fun D hD => (by cases hD)⟩
  obtain ⟨_, hc⟩ := exec_calls hM hT hO hOl f hm (N := n) (fun v h' n' hq => by rw [hq.2]; exact Nat.le_refl _) (fun _ _ _ => rfl) (Nat.le_refl _) H VRs.nil
  refine Calls.mono (callsIn_wide.1 hc) ?_
  rintro e w' ⟨u, rfl, v, h', n', ρ', ⟨rfl, _⟩, _, _, _, H', hv⟩
  cases hv
  exact ⟨rfl, H'.bel⟩

theorem yes_mw {mK mG : M Value} (he : mK = mG) (h0 : isT (mK .nil 0) = true) : ∃ k, MW mG .nil 0 fun v h' n' => v = .bool true ∧ n' = k := by
  obtain ⟨g, k, r, w, e⟩ := isT_ok h0
  exact ⟨k, mw_eq he (mw_of e)⟩
theorem yes_calls {P : Program} {T : Tab} {f : Nat} {g : FuncId} (hM : P.follows .mixedOrders = true) (hT : TabOK P T) (hO : OvOK P T) (hOl : ∀ f m args, T.ov f = some m → Go.IM.Loc (m args))
    (h0 : isT (callK T (execK T f) g [] .nil 0) = true) (w : World) : Calls P g #[] w fun e w' => e = .returned (.bool true) ∧ Below w.heap.size w w' := by
  obtain ⟨k, hm⟩ := yes_mw (callK_exec T f g []) h0
  exact closed_calls hM hT hO hOl hm w

/-- awake says yes, and leaves what was there as it was. -/
theorem awake_calls (w : World) : Calls Tryz.prog 7 #[] w fun e w' => e = .returned (.bool true) ∧ Below w.heap.size w w' :=
  yes_calls (T := T1) (f := 300) mixed tab1 ov1_ok ov1_loc awake_run w
end Go.Proofs.YtamhdelomchleaaGreat
