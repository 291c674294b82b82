/- TreeNil: its contract. -/
import Derived.Test.YtamhdelomchleaaGreatH3
set_option linter.unusedVariables false
namespace Go.Proofs.YtamhdelomchleaaGreat
open Go.IM Go.RowKit

noncomputable def awakeM (args : List Value) : M Value := match args with
  | [] => M.pure (.bool true)
  | _ => M.fail
theorem awakeM_loc (args : List Value) : Go.IM.Loc (awakeM args) := by
  unfold awakeM
  split
  · exact .pure _
  · exact .fail
noncomputable def ov2 : FuncId → Option (List Value → M Value) := fun f => bif Nat.beq f 7 then some awakeM else none
noncomputable def T2 : Tab := ⟨tyT.get, fnT.get, ov2, un0⟩
theorem tab2 : TabOK Tryz.prog T2 := ⟨ty_ok, fn_ok⟩
theorem ov2_at {f : FuncId} {m : List Value → M Value} (h : ov2 f = some m) : f = 7 ∧ m = awakeM := by
  unfold ov2 at h
  cases hb : Nat.beq f 7 with
  | false => rw [hb] at h; cases h
  | true => rw [hb] at h; cases h; exact ⟨Nat.eq_of_beq_eq_true hb, rfl⟩
theorem ov2_loc (f : FuncId) (m : List Value → M Value) (args : List Value) (h : T2.ov f = some m) : Go.IM.Loc (m args) := by
  obtain ⟨_, rfl⟩ := ov2_at h
  exact awakeM_loc args
theorem ov2_ok : OvOK Tryz.prog T2 := by
  intro g m h
  obtain ⟨rfl, rfl⟩ := ov2_at h
  refine ⟨⟨_, Tryz.func7, Tryz.call7⟩, ?_⟩
  intro B w0 Ds ρ h n N w Q args us hm hN hF hB H hv
  unfold awakeM at hm
  split at hm
  · rw [VRs.inv_nil hv]
    refine CallsIn.mono (callsIn_wide.2 (awake_calls w)) ?_
    rintro e w' ⟨rfl, hb⟩
    exact ⟨_, rfl, Post.here hm (H.grow hB ⟨hb.os, hb.tape, hb.output, hb.size, fun k hk _ => hb.block k hk⟩) (.bool true)⟩
  · exact hm.elim

theorem nil_run (i id : Int) : isT (callK T2 (execK T2 300) 6 [.int .i64 i, .int .i64 id] .nil 0) = true := by kernel_rfl

theorem closed_calls2 {P : Program} {T : Tab} {f : Nat} {g : FuncId} {n : Nat} {args : List Value} (ha : ∀ ρ, VRs ρ args args) (hM : P.follows .mixedOrders = true) (hT : TabOK P T) (hO : OvOK P T) (hOl : ∀ f m args, T.ov f = some m → Go.IM.Loc (m args))
    (hm : MW (callG T (exec T f) g args) .nil 0 fun v h' n' => v = .bool true ∧ n' = n) (w : World) : Calls P g ⟨args⟩ w fun e w' => e = .returned (.bool true) ∧ Below w.heap.size w w' := by
  have H : HR w.heap.size w [] (fun _ => none) .nil w :=
    ⟨fun i o hi => (by rw [Tr.get_nil] at hi; cases hi), fun i j b s s' h1 => (by rw [Tr.get_nil] at h1; cases h1), fun i b s hi => (by cases hi), Below.refl _ _, fun D hD => (by cases hD)⟩
  obtain ⟨_, hc⟩ := exec_calls hM hT hO hOl f hm (N := n) (fun v h' n' hq => by rw [hq.2]; exact Nat.le_refl _) (fun _ _ _ => rfl) (Nat.le_refl _) H (ha _)
  refine Calls.mono (callsIn_wide.1 hc) ?_
  rintro e w' ⟨u, rfl, v, h', n', ρ', ⟨rfl, _⟩, _, _, _, H', hv⟩
  cases hv
  exact ⟨rfl, H'.bel⟩
theorem yes_calls2 {P : Program} {T : Tab} {f : Nat} {g : FuncId} {args : List Value} (ha : ∀ ρ, VRs ρ args args) (hM : P.follows .mixedOrders = true) (hT : TabOK P T) (hO : OvOK P T) (hOl : ∀ f m args, T.ov f = some m → Go.IM.Loc (m args))
    (h0 : isT (callK T (execK T f) g args .nil 0) = true) (w : World) : Calls P g ⟨args⟩ w fun e w' => e = .returned (.bool true) ∧ Below w.heap.size w w' := by
  obtain ⟨k, hm⟩ := yes_mw (callK_exec T f g args) h0
  exact closed_calls2 ha hM hT hO hOl hm w

theorem nil_calls (i id : Int) (w : World) : Calls Tryz.prog 6 #[.int .i64 i, .int .i64 id] w fun e w' => e = .returned (.bool true) ∧ Below w.heap.size w w' :=
  yes_calls2 (T := T2) (f := 300) (fun ρ => .cons (.int _ _) (.one (.int _ _))) mixed tab2 ov2_ok ov2_loc (nil_run i id) w
end Go.Proofs.YtamhdelomchleaaGreat
