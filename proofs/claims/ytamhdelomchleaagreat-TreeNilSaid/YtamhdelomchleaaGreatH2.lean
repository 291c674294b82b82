/- Sets: can (a deferred closure that recovers): a contract, and what the machine takes of it. -/
import Derived.Test.YtamhdelomchleaaGreatH1
import Derived.WalkSpells
import Derived.WalkLawsBesides
import Derived.Defers
import Derived.Recover
import Derived.Maps.OwnOps
set_option linter.unusedVariables false
set_option linter.unusedSimpArgs false

namespace Go.IM
noncomputable def canC (x : Int) : List Value → M Value
  | .map (some m) :: _ => M.bind (mapM m) fun es => M.opt (findL (.int .i64 x) es) fun _ => M.pure (.bool true)
  | _ => M.fail
noncomputable def canM (args : List Value) : M Value := match args with
  | [.pointer (some ⟨b, 0, none⟩), .int .i64 x] => M.bind (cellsM b) fun c => canC x c.1
  | _ => M.fail
theorem canC_loc (x : Int) (cs : List Value) : Loc (canC x cs) := by
  unfold canC
  split
  · exact .bind (.mapM _) fun _ => .opt fun _ => .pure _
  · exact .fail
theorem canM_loc (args : List Value) : Loc (canM args) := by
  unfold canM
  split
  · exact .bind (.cellsM _) fun _ => canC_loc _ _
  · exact .fail

theorem HR.grow {B : Nat} {w0 : World} {Ds : List Nat} {ρ : Nam} {h : Tr AObj} {w w' : World} (H : HR B w0 Ds ρ h w) (hB : B ≤ w0.heap.size) (hg : w.grownBy w' none) : HR B w0 Ds ρ h w' :=
  ⟨fun j p hj => by
    obtain ⟨c, t, h1, h2⟩ := H.obj j p hj
    refine ⟨c, t, h1, ?_⟩
    rw [hg.block c (H.rng j c t h1).2.1 (fun e1 => by cases e1)]
    exact h2, H.inj, fun j c t e => by
    have := H.rng j c t e
    exact ⟨this.1, Nat.lt_of_lt_of_le this.2.1 hg.size, this.2.2⟩, HR.below_of H.bel hg (fun c e => by cases e) (Nat.le_trans hB H.bel.size), fun D hD => ⟨HR.blk_keep hg (H.ds D hD).1 (fun e => by cases e), (H.ds D hD).2⟩⟩
end Go.IM

namespace Go.Proofs.YtamhdelomchleaaGreat
open Go.RowKit Go.Maps

theorem can1 (p : Addr) (x : Bool) (w : World) (hc : w.cell? p = some (.bool x)) (hz : w.frozen? p = false) :
    CallsD Tryz.prog 175 #[.pointer (some p)] .returning w fun e u' w' => e = .returned (.tuple #[]) ∧ u' = .returning ∧ w' = w.setCell p (.bool true) := by
  refine callsD_of_wpS Tryz.func175 rfl fun c₀ cs hu => ?_
  apply wpS_region
  simp [wpOpsS, go_sem, recoverD, hu, Tryz.ntmps175, Exit.thenS, hc, hz, bodyPostS, results, Tryz.results175]
  cases c₀
  simp_all

theorem wpList_lookup_val {P : Program} {ops : Array Oper} {rest : List Oper} {o : Oper} {a : Act} {w : World} {Q : Exit → Act → World → Prop} (hg : o.guard = none) (m x : Operand) (t : TypeId) (hop : o.op = .lookup t m x false) (c : Value)
    (hr : (Instr.lookup t (a.eval m) (a.eval x) false).run P w = .ok c w) (h : wpList P ops Q rest (a.put o.dst c) w) : wpList P ops Q (o :: rest) a w :=
  wpList_plain hg fun K hK => by
    unfold Oper.wp execOp
    simp only [hop, Sem.run_bind, hr, Result.andThen_ok]
    exact hK _ _ h

set_option maxRecDepth 100000 in
set_option maxHeartbeats 1000000 in
theorem can_calls (w : World) (sb mb : Nat) (C : Array Value) (tc : TypeId) (x : Int) (c : Value)
    (hs : w.heap[sb]? = some (.cells C tc (0, 0))) (hC : C[0]? = some (.map (some mb)))
    (hl : ∀ o : Obj, (Instr.lookup 123 (.map (some mb)) (.int .i64 x) false).run Tryz.prog (w.alloc o) = .ok c (w.alloc o)) :
    Calls Tryz.prog 157 #[.pointer (some ⟨sb, 0, none⟩), .int .i64 x] w fun e w' => e = .returned (.bool true) ∧ w.grownBy w' none := by
  have hmf : ∀ (fn : Fn) (first cap : Array Value) (w : World), (Instr.makeFunc fn first cap).run Tryz.prog w = .ok (.func fn first cap) w := fun _ _ _ _ => rfl
  have hlt : sb < w.heap.size := (Array.getElem?_eq_some_iff.1 hs).1
  have c0 : (w.alloc (.cells #[.bool false] 4)).cell? ⟨sb, 0, none⟩ = some (.map (some mb)) := by
    have h1 : (w.alloc (.cells #[.bool false] 4)).heap[sb]? = some (.cells C tc (0, 0)) := by
      show (w.heap.push _)[sb]? = _
      rw [Array.getElem?_push, if_neg (by omega)]
      exact hs
    simp only [World.cell?, h1]
    simpa using hC
  have hlk := hl (.cells #[.bool false] 4)
  go_enter_defers Tryz.func157, Tryz.ntmps157
  go_wp2_with (at_lookup; refine wpList_lookup_val rfl _ _ 123 rfl c hlk ?_)
  refine leaves_cons (f := 175) (args := #[.pointer (some ⟨w.heap.size, 0, none⟩)]) (by simp) (by simp [go_sem]) ?_
  refine (can1 ⟨w.heap.size, 0, none⟩ true _ ?_ ?_).mono ?_
  · simp [go_sem]
  · simp [go_sem]
  rintro e u' w'' ⟨rfl, rfl, rfl⟩
  simp [Leaves, settle, results, Tryz.results157, go_sem]
  exact World.grownBy_alloc w _ none

open Go.IM in
theorem can_ok {B : Nat} {w0 : World} {Ds : List Nat} {ρ : Nam} {h : Tr AObj} {n N : Nat} {w : World} {Q : Value → Tr AObj → Nat → Prop} {args us : List Value}
    (hm : MW (canM args) h n Q) (hN : ∀ v h' n', Q v h' n' → n' ≤ N) (hF : Fresh ρ n N) (hB : B ≤ w0.heap.size) (H : HR B w0 Ds ρ h w) (hv : VRs ρ args us) :
    CallsIn Fence.wide 0 Tryz.prog 157 ⟨us⟩ w fun e w' => ∃ u, e = .returned u ∧ Post B w0 Ds ρ n Q u w' := by
  unfold canM at hm
  split at hm
  · rename_i b x
    rw [MW.bind] at hm
    obtain ⟨cs, t, hb, hm⟩ := MW.cellsM hm
    unfold canC at hm
    split at hm
    · rename_i m l heq
      have heq : cs = .map (some m) :: l := heq
      subst heq
      rw [MW.bind] at hm
      obtain ⟨es, hes, hm⟩ := MW.mapM hm
      rw [MW.opt] at hm
      obtain ⟨r, hr, hm⟩ := hm
      obtain ⟨u1, as1, rfl, hu1, hv1⟩ := hv.inv_cons
      obtain ⟨u2, as2, rfl, hu2, hv2⟩ := hv1.inv_cons
      rw [VRs.inv_nil hv2]
      cases hu1 with
      | @ptr _ b' s _ hρ =>
        cases hu2
        obtain ⟨b2, s2, hρ2, hO⟩ := H.obj _ _ hb
        rw [hρ] at hρ2
        cases hρ2
        obtain ⟨C, tc, hC, hsz, hlen, hr2⟩ := OR.cells hO
        obtain ⟨y, hy, hxy⟩ := hr2.getE (i := 0) (x := .map (some m)) rfl
        rw [List.getElem?_take, if_pos (by simp)] at hy
        cases hxy with
        | @map _ mb sm hρm =>
          obtain ⟨b3, s3, hρ3, hO3⟩ := H.obj _ _ hes
          rw [hρm] at hρ3
          cases hρ3
          obtain ⟨E, hE, hR⟩ := map_or hO3
          have hC0 : C[0]? = some (.map (some mb)) := by rw [← Array.getElem?_toList]; exact hy
          have hlook : ∃ c, ∀ o : Obj, (Instr.lookup 123 (.map (some mb)) (.int .i64 x) false).run Tryz.prog (w.alloc o) = .ok c (w.alloc o) := by
            have hE' : ∀ o : Obj, (w.alloc o).heap[mb]? = some (.map ⟨E⟩ es.length) := fun o => by
              have : mb < w.heap.size := (Array.getElem?_eq_some_iff.1 hE).1
              show (w.heap.push _)[mb]? = _
              rw [Array.getElem?_push, if_neg (by omega)]
              exact hE
            rcases find_ok (i := 0) (kk := .i64) (VR.int .i64 x) hR hr with ⟨_, hf⟩ | ⟨x', m', c, _, hf, _⟩
            · refine ⟨.int .i64 0, fun o => ?_⟩
              simp [Instr.lookup, run_underlying Tryz.underlying123, Go.MapKept.run_getObj_map (hE' o), run_checkKey_int Tryz.underlying3, Go.MapKept.run_findKey Tryz.underlying3 hf, Tryz.zeroValue3]
            · refine ⟨c, fun o => ?_⟩
              simp [Instr.lookup, run_underlying Tryz.underlying123, Go.MapKept.run_getObj_map (hE' o), run_checkKey_int Tryz.underlying3, Go.MapKept.run_findKey Tryz.underlying3 hf, Tryz.zeroValue3]
          obtain ⟨c, hlk⟩ := hlook
          refine CallsIn.mono (callsIn_wide.2 (can_calls w b' mb C tc x c hC hC0 hlk)) ?_
          rintro e w' ⟨rfl, hg⟩
          exact ⟨_, rfl, Post.here hm (H.grow hB hg) (.bool true)⟩
    · exact hm.elim
  · exact hm.elim
end Go.Proofs.YtamhdelomchleaaGreat
