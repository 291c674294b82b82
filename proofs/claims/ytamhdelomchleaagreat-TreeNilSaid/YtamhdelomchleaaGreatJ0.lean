/- The leaner machine and the model: walks over maps, builtins. -/
import Derived.Test.YtamhdelomchleaaGreatI9
set_option linter.unusedVariables false
set_option linter.unusedSimpArgs false
namespace Go.IM
open Go.RowKit
open Go.ChangeMaps (setBlock)
open Go.MapKept (run_findKey run_setObj_map heap_set)

section
variable {P : Program} {w : World} {ρ : Nam}

theorem range_ok {B : Nat} {w0 : World} {Ds : List Nat} {h : Tr AObj} {n N : Nat} {t : TypeId} {i : TI} {v a : Value} {Q : Value → Tr AObj → Nat → Prop}
    (hm : MW (rangeM v) h n Q) (hT : TyOK P t i) (hi : isMapK i.k = true) (hN : ∀ v h' n', Q v h' n' → n' ≤ N) (hF : Fresh ρ n N) (hB : B ≤ w0.heap.size) (H : HR B w0 Ds ρ h w) (hv : VR ρ v a) :
    ∃ u w', (Instr.range t a).run P w = .ok u w' ∧ Post B w0 Ds ρ n Q u w' := by
  obtain ⟨kt, e, kk, ht, hkk⟩ := isMapK_ok hT hi
  unfold rangeM at hm
  split at hm
  · rename_i m
    rw [MW.bind] at hm
    obtain ⟨es, hes, hm⟩ := MW.mapM hm
    rw [MW.bind] at hm
    cases hv with
    | @map _ b' s hρ =>
      obtain ⟨b2, s2, hρ2, hO⟩ := H.obj _ _ hes
      rw [hρ] at hρ2
      cases hρ2
      obtain ⟨E, hE1, hR⟩ := map_or hO
      obtain ⟨h', hq, he, hd, H'⟩ := new_ok (b := w.heap.size) (s := 0) (w' := w.alloc (.mapIter (some b') es.length #[] es.length)) hm (fun v h' n' hq => hN _ _ _ hq) hF hB H (grown_alloc _ _) (Nat.le_refl _) (by simp) (fun ρ' he => by
        rw [heap_alloc_new]
        exact ⟨b', s, he _ _ hρ, rfl⟩)
      refine ⟨_, _, ?_, _, _, _, _, hq, Nat.le_succ _, he, hd, H', .ptr 0 (upd_self _ _ _)⟩
      simp [Instr.range, run_underlying ht, Go.MapKept.run_getObj_map hE1]
  · exact hm.elim

theorem any_rev (seen : List Nat) (j : Nat) : seen.any (Nat.beq j) = (⟨seen.reverse⟩ : Array Nat).contains j := by
  rw [Bool.eq_iff_iff]
  simp [List.any_eq_true]

theorem unseen_ok {seen : List Nat} : ∀ {es : List (Value × Value)} {E : List MapEntry} {j : Nat}, MRs ρ j es E →
    (∀ x ∈ E, (⟨seen.reverse⟩ : Array Nat).contains x.born = false → ∃ p, (x.born, p) ∈ unseen seen j es ∧ ER ρ x.born p x) ∧
    ((∃ p, p ∈ unseen seen j es) → ∃ x ∈ E, (⟨seen.reverse⟩ : Array Nat).contains x.born = false)
  | [], E, j, hR => by cases hR; exact ⟨by simp, by simp [unseen]⟩
  | e :: es, E, j, hR => by
    cases hR with
    | @cons _ _ X _ E h k =>
      obtain ⟨i1, i2⟩ := unseen_ok (seen := seen) k
      have hb := h.born
      unfold unseen
      cases hs : seen.any (Nat.beq j) with
      | true =>
        simp only [cond_true]
        have hc : (⟨seen.reverse⟩ : Array Nat).contains X.born = true := by rw [hb, ← any_rev]; exact hs
        refine ⟨fun x hx hn => ?_, fun hp => ?_⟩
        · rcases List.mem_cons.1 hx with rfl | hx
          · rw [hc] at hn; cases hn
          · exact i1 x hx hn
        · obtain ⟨x, hx, hn⟩ := i2 hp
          exact ⟨x, List.mem_cons_of_mem _ hx, hn⟩
      | false =>
        simp only [cond_false]
        have hc : (⟨seen.reverse⟩ : Array Nat).contains X.born = false := by rw [hb, ← any_rev]; exact hs
        refine ⟨fun x hx hn => ?_, fun hp => ⟨X, by simp, hc⟩⟩
        rcases List.mem_cons.1 hx with rfl | hx
        · exact ⟨e, by rw [hb]; simp, by rw [hb]; exact h⟩
        · obtain ⟨p, h1, h2⟩ := i1 x hx hn
          exact ⟨p, List.mem_cons_of_mem _ h1, h2⟩

theorem MRs.borns : ∀ {es : List (Value × Value)} {E : List MapEntry} {j : Nat}, MRs ρ j es E → E.map (·.born) = List.range' j es.length
  | [], E, j, hR => by cases hR; rfl
  | e :: es, E, j, hR => by
    cases hR with
    | @cons _ _ X _ E h k => simp only [List.map_cons, h.born, k.borns, List.length_cons, List.range'_succ]

theorem MRs.lt {es : List (Value × Value)} {E : List MapEntry} (h : MRs ρ 0 es E) : ∀ x ∈ E, x.born < es.length := fun x hx => by
  have : x.born ∈ E.map (·.born) := List.mem_map.2 ⟨x, hx, rfl⟩
  rw [h.borns] at this
  have := List.mem_range'_1.1 this
  omega

theorem MRs.at : ∀ {es : List (Value × Value)} {E : List MapEntry} {j i : Nat} {e : Value × Value}, MRs ρ j es E → es[i]? = some e → ∃ x, x ∈ E ∧ ER ρ (j + i) e x
  | [], E, j, i, e, hR, h => by simp at h
  | p :: es, E, j, i, e, hR, h => by
    cases hR with
    | @cons _ _ X _ E hX k =>
      cases i with
      | zero =>
        simp only [List.getElem?_cons_zero, Option.some.injEq] at h
        subst h
        exact ⟨X, by simp, hX⟩
      | succ i =>
        obtain ⟨x, hx, hr⟩ := k.at (i := i) (by simpa using h)
        exact ⟨x, List.mem_cons_of_mem _ hx, by rw [show j + (i + 1) = j + 1 + i by omega]; exact hr⟩

theorem iter_or {m k : Nat} {seen : List Nat} {s : Nat} {c : Option Obj} (h : OR ρ (.iter m k seen) s c) : ∃ b s', ρ m = some (b, s') ∧ c = some (.mapIter (some b) k ⟨seen.reverse⟩ k) := h

theorem addr0_ok {v a : Value} {r : Nat} (e : addr0 v = some r) (hv : VR ρ v a) : ∃ b s, ρ r = some (b, s) ∧ a = .pointer (some ⟨b, 0, none⟩) := by
  unfold addr0 at e
  split at e
  · cases e
    cases hv with
    | ptr _ h => exact ⟨_, _, h, rfl⟩
  · cases e
theorem iterV_ok {o : AObj} {s : IterR} (e : iterV o = some s) : o = .iter s.m s.c s.seen := by
  unfold iterV at e
  split at e
  · cases e; rfl
  · cases e

theorem next_ok {B : Nat} {w0 : World} {Ds : List Nat} {h : Tr AObj} {n : Nat} {ty : TypeId} {v a : Value} {Q : Value → Tr AObj → Nat → Prop}
    (hm : MW (nextM v) h n Q) (hB : B ≤ w0.heap.size) (H : HR B w0 Ds ρ h w) (hv : VR ρ v a) :
    ∃ u w', (Instr.next a false ty).run P w = .ok u w' ∧ Post B w0 Ds ρ n Q u w' := by
  unfold nextM at hm
  rw [MW.opt] at hm
  obtain ⟨r, hr, hm⟩ := hm
  obtain ⟨b, s, hρ, rfl⟩ := addr0_ok hr hv
  rw [MW.bind, MW.rd] at hm
  obtain ⟨o, ho, hm⟩ := hm
  rw [MW.opt] at hm
  obtain ⟨I, hI, hm⟩ := hm
  have := iterV_ok hI
  subst this
  rw [MW.bind] at hm
  obtain ⟨es, hes, hm⟩ := MW.mapM hm
  rw [MW.grd] at hm
  obtain ⟨hl, hm⟩ := hm
  have hl := Nat.eq_of_beq_eq_true hl
  obtain ⟨b2, s2, hρ2, hO⟩ := H.obj _ _ ho
  rw [hρ] at hρ2
  cases hρ2
  obtain ⟨bm, sm, hρm, hit⟩ := iter_or hO
  obtain ⟨b3, s3, hρ3, hO3⟩ := H.obj _ _ hes
  rw [hρm] at hρ3
  cases hρ3
  obtain ⟨E, hE, hR⟩ := map_or hO3
  obtain ⟨u1, u2⟩ := unseen_ok (seen := I.seen) hR
  have hrun := run_next_at (P := P) w ty b bm I.c I.c ⟨I.seen.reverse⟩ ⟨E⟩ es.length hit hE (fun x hx => by rw [← hl]; exact hR.lt x hx) (Nat.le_refl _)
  rcases hrun with ⟨hz, hrun⟩ | ⟨x, hx, w1, hw1, hrun⟩
  · split at hm
    · exact ⟨_, _, hrun, Post.here hm H (VRs.one (.bool false)).tup⟩
    · rename_i hne
      exfalso
      have : ∃ p, p ∈ unseen I.seen 0 es := by
        cases hu : unseen I.seen 0 es with
        | nil => exact absurd hu (by intro e; exact hne e)
        | cons p l => exact ⟨p, by simp⟩
      obtain ⟨x, hx, hn⟩ := u2 this
      have hmem : x ∈ (leftOf ⟨E⟩ ⟨I.seen.reverse⟩) := by
        unfold leftOf
        simp only [Array.mem_filter, hn, Bool.not_false, and_true]
        simpa using hx
      have := Array.size_pos_of_mem hmem
      omega
  · have hx' : x ∈ E ∧ (⟨I.seen.reverse⟩ : Array Nat).contains x.born = false := by
      have : x ∈ leftOf ⟨E⟩ ⟨I.seen.reverse⟩ := by simpa using hx
      unfold leftOf at this
      rw [Array.mem_filter] at this
      exact ⟨by simpa using this.1, by simpa using this.2⟩
    obtain ⟨p, hp, hr⟩ := u1 x hx'.1 hx'.2
    split at hm
    · rename_i hnil
      rw [hnil] at hp
      cases hp
    · rw [MW.bind] at hm
      have hm := MW.amb hm _ hp
      rw [MW.bind, MW.wr] at hm
      obtain ⟨_, hlt, hm⟩ := hm
      have H1 : HR B w0 Ds ρ h w1 ∧ w1.heap = w.heap := by
        rcases hw1 with rfl | rfl
        · exact ⟨H, rfl⟩
        · exact ⟨H.drew _, rfl⟩
      refine ⟨_, _, hrun, Post.here hm (H1.1.write hB _ ho hρ hlt (grown_setBlock (o := .mapIter none 0 #[] 0) _) ?_) (VRs.cons (.bool true) (VRs.cons hr.key (.one hr.val))).tup⟩
      refine ⟨bm, sm, hρm, ?_⟩
      rw [setBlock_at (H1.2 ▸ hit), hl]
      simp

theorem entry_ok {B : Nat} {w0 : World} {Ds : List Nat} {h : Tr AObj} {n : Nat} {v a : Value} {Q : Value → Tr AObj → Nat → Prop}
    (hm : MW (entryM v) h n Q) (H : HR B w0 Ds ρ h w) (hv : VR ρ v a) :
    ∃ u, (Instr.entry a).run P w = .ok u w ∧ Post B w0 Ds ρ n Q u w := by
  unfold entryM at hm
  rw [MW.opt] at hm
  obtain ⟨r, hr, hm⟩ := hm
  obtain ⟨b, s, hρ, rfl⟩ := addr0_ok hr hv
  rw [MW.bind, MW.rd] at hm
  obtain ⟨o, ho, hm⟩ := hm
  rw [MW.opt] at hm
  obtain ⟨I, hI, hm⟩ := hm
  have := iterV_ok hI
  subst this
  rw [MW.bind] at hm
  obtain ⟨es, hes, hm⟩ := MW.mapM hm
  rw [MW.grd] at hm
  obtain ⟨hl, hm⟩ := hm
  have hl := Nat.eq_of_beq_eq_true hl
  obtain ⟨b2, s2, hρ2, hO⟩ := H.obj _ _ ho
  rw [hρ] at hρ2
  cases hρ2
  obtain ⟨bm, sm, hρm, hit⟩ := iter_or hO
  obtain ⟨b3, s3, hρ3, hO3⟩ := H.obj _ _ hes
  rw [hρm] at hρ3
  cases hρ3
  obtain ⟨E, hE, hR⟩ := map_or hO3
  split at hm
  · exact hm.elim
  · rename_i i l hs
    rw [MW.opt] at hm
    obtain ⟨e, he, hm⟩ := hm
    rw [List.head?_drop] at he
    obtain ⟨x, hx, hr⟩ := hR.at he
    have hxb : x.born = i := by rw [hr.born]; omega
    refine ⟨_, run_entry_at (P := P) w b bm I.c ⟨l.reverse⟩ ⟨E⟩ es.length x ?_ hE (by simpa using hx) ?_, Post.here hm H (VRs.cons hr.key (.one hr.val)).tup⟩
    · rw [hit, hs, hxb, hl]
      simp
    · show (E.map (·.born)).Nodup
      rw [hR.borns]
      exact List.nodup_range'

theorem len_ok {B : Nat} {w0 : World} {Ds : List Nat} {h : Tr AObj} {n : Nat} {t ty : TypeId} {ts : List TypeId} {i : TI} {v a : Value} {Q : Value → Tr AObj → Nat → Prop}
    (hm : MW (lenM i.k v) h n Q) (hT : TyOK P t i) (H : HR B w0 Ds ρ h w) (hv : VR ρ v a) :
    ∃ u, (Builtin.len_ ⟨t :: ts⟩ ty #[a]).run P w = .ok u w ∧ Post B w0 Ds ρ n Q u w := by
  have hk := hT.k
  unfold lenM at hm
  split at hm
  · rename_i e sz by_ ad len c hi'
    rw [hi'] at hk
    obtain ⟨h1, _⟩ := hk
    refine ⟨.int .i64 len, ?_, Post.here hm H (.int _ _)⟩
    cases hv <;> simp [Builtin.len_, run_underlying h1, goInt]
  · rename_i k e hi'
    rw [hi'] at hk
    obtain ⟨h1, _⟩ := hk
    refine ⟨.int .i64 0, ?_, Post.here hm H (.int _ _)⟩
    cases hv
    simp [Builtin.len_, run_underlying h1, goInt]
  · rename_i k e m hi'
    rw [hi'] at hk
    obtain ⟨h1, _⟩ := hk
    rw [MW.bind] at hm
    obtain ⟨es, hes, hm⟩ := MW.mapM hm
    cases hv with
    | @map _ b' s hρ =>
      obtain ⟨b2, s2, hρ2, hO⟩ := H.obj _ _ hes
      rw [hρ] at hρ2
      cases hρ2
      obtain ⟨E, hE1, hR⟩ := map_or hO
      have hlen : E.length = es.length := by have := congrArg List.length hR.borns; simpa using this
      refine ⟨.int .i64 es.length, ?_, Post.here hm H (.int _ _)⟩
      simp [Builtin.len_, run_underlying h1, goInt, Go.MapKept.run_getObj_map hE1, hlen]
  · exact hm.elim
end
end Go.IM
