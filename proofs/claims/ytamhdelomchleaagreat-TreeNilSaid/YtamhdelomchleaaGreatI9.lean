/- The leaner machine and the model: maps, walks over maps, builtins. -/
import Derived.Test.YtamhdelomchleaaGreatI8
set_option linter.unusedVariables false
set_option linter.unusedSimpArgs false
namespace Go.IM
open Go.RowKit
open Go.ChangeMaps (setBlock)
open Go.MapKept (run_findKey run_setObj_map heap_set)

section
variable {P : Program} {w : World} {ρ : Nam}

theorem same_int {kk : IntKind} {v u x y : Value} {b : Bool} (e : sameKey v x = some b) (hv : VR ρ v u) (hx : VR ρ x y) : Instr.sameNow (.int kk) u y = some b ∧ (b = true → y = u) := by
  unfold sameKey at e
  split at e
  · rename_i k a k' b'
    cases hv
    cases hx
    by_cases hk : k = k'
    · subst hk
      simp only [decide_true, cond_true, Option.some.injEq] at e
      refine ⟨by simp [Instr.sameNow, e], fun hb => ?_⟩
      rw [hb] at e
      have : a = b' := by simpa using e
      rw [this]
    · simp [hk] at e
  · cases e

theorem find_ok {kk : IntKind} {v u : Value} (hv : VR ρ v u) : ∀ {es : List (Value × Value)} {E : List MapEntry} {j i : Nat} {r : Option Value}, MRs ρ j es E → findL v es = some r →
    (r = none ∧ Instr.findNow (.int kk) u E i = some none) ∨ ∃ x m c, r = some x ∧ Instr.findNow (.int kk) u E i = some (some (m, c)) ∧ VR ρ x c
  | [], E, j, i, r, hR, e => by
    cases hR
    cases e
    exact .inl ⟨rfl, rfl⟩
  | (x, y) :: es, E, j, i, r, hR, e => by
    cases hR with
    | @cons _ _ X _ E h k =>
      unfold findL at e
      unfold Instr.findNow
      cases hs : sameKey v x with
      | none => rw [hs] at e; cases e
      | some b =>
        rw [hs] at e
        rw [(same_int (kk := kk) hs hv h.key).1]
        cases b with
        | true => cases e; exact .inr ⟨_, _, _, rfl, rfl, h.val⟩
        | false => exact find_ok hv k e

theorem put_ok {kk : IntKind} {v u x c : Value} (hv : VR ρ v u) (hx : VR ρ x c) : ∀ {es es' : List (Value × Value)} {E : List MapEntry} {j i : Nat}, MRs ρ j es E → putL v x es = some es' →
    (Instr.findNow (.int kk) u E i = some none ∧ MRs ρ j es' (E ++ [⟨u, c, j + es.length⟩]) ∧ es'.length = es.length + 1) ∨
    ∃ m y, Instr.findNow (.int kk) u E i = some (some (i + m, y.val)) ∧ E[m]? = some y ∧ y.key = u ∧ (∃ k n, u = .int k n) ∧ MRs ρ j es' (E.modify m fun e => { e with key := u, val := c }) ∧ es'.length = es.length
  | [], es', E, j, i, hR, e => by
    cases hR
    cases e
    exact .inl ⟨rfl, .cons ⟨hv, hx, rfl⟩ (.nil _), rfl⟩
  | (a, b) :: es, es', E, j, i, hR, e => by
    cases hR with
    | @cons _ _ X _ E h k =>
      unfold putL at e
      unfold Instr.findNow
      cases hs : sameKey v a with
      | none => rw [hs] at e; cases e
      | some q =>
        rw [hs] at e
        obtain ⟨hq, hqe⟩ := same_int (kk := kk) hs hv h.key
        rw [hq]
        cases q with
        | true =>
          cases e
          have hint : ∃ k n, u = .int k n := by
            unfold sameKey at hs
            split at hs
            · cases hv; exact ⟨_, _, rfl⟩
            · cases hs
          exact .inr ⟨0, X, rfl, rfl, hqe rfl, hint, .cons ⟨hv, hx, h.born⟩ k, rfl⟩
        | false =>
          cases hp : putL v x es with
          | none => rw [hp] at e; cases e
          | some es2 =>
            rw [hp] at e
            cases e
            rcases put_ok (i := i + 1) (kk := kk) hv hx k hp with ⟨h1, h2, h3⟩ | ⟨m, y, h1, h2, h3, h3', h4, h5⟩
            · refine .inl ⟨h1, ?_, by simp [h3]⟩
              have : j + ((a, b) :: es).length = j + 1 + es.length := by simp; omega
              rw [this]
              exact .cons h h2
            · refine .inr ⟨m + 1, y, ?_, by simpa using h2, h3, h3', ?_, by simp [h5]⟩
              · simp only [h1]; congr 3; omega
              · rw [List.modify_succ_cons]
                exact .cons h h4

theorem map_or {es : List (Value × Value)} {s : Nat} {c : Option Obj} (h : OR ρ (.map es) s c) : ∃ E : List MapEntry, c = some (.map ⟨E⟩ es.length) ∧ MRs ρ 0 es E := h

theorem run_checkKey_int {kt : TypeId} {kk : IntKind} {u : Value} (h : P.underlying kt = some (.int kk)) (e : Bool) (n : Nat) : (Instr.checkKey e (n + 1) kt u).run P w = .ok () w := by
  unfold Instr.checkKey
  rw [Sem.run_bind, run_underlying h, Result.andThen_ok]
  rfl

theorem look_ok {B : Nat} {w0 : World} {Ds : List Nat} {h : Tr AObj} {n : Nat} {T : Tab} {t : TypeId} {i : TI} {v u a b : Value} {ok : Bool} {Q : Value → Tr AObj → Nat → Prop}
    (hm : MW (lookM T i.k v u ok) h n Q) (hT : TyOK P t i) (hTT : ∀ t i, T.ty t = some i → TyOK P t i) (H : HR B w0 Ds ρ h w) (hv : VR ρ v a) (hu : VR ρ u b) :
    ∃ c, (Instr.lookup t a b ok).run P w = .ok c w ∧ Post B w0 Ds ρ n Q c w := by
  have hk := hT.k
  unfold lookM at hm
  split at hm
  · rename_i k e m hi'
    rw [hi'] at hk
    obtain ⟨ht, kk, hkk⟩ := hk
    rw [MW.opt] at hm
    obtain ⟨ie, hie, hm⟩ := hm
    have hE := hTT _ _ hie
    rw [MW.bind] at hm
    obtain ⟨es, hes, hm⟩ := MW.mapM hm
    rw [MW.opt] at hm
    obtain ⟨r, hr, hm⟩ := hm
    cases hv with
    | @map _ b' s hρ =>
      obtain ⟨b2, s2, hρ2, hO⟩ := H.obj _ _ hes
      rw [hρ] at hρ2
      cases hρ2
      obtain ⟨E, hE1, hR⟩ := map_or hO
      rcases find_ok (i := 0) (kk := kk) hu hR hr with ⟨rfl, hf⟩ | ⟨x, m', c, rfl, hf, hxc⟩
      · refine ⟨foundV ok (zeroOf ie) none, ?_, Post.here hm H ?_⟩
        · simp [Instr.lookup, run_underlying ht, Go.MapKept.run_getObj_map hE1, run_checkKey_int hkk, run_findKey hkk hf, hE.zero]
          cases ok <;> rfl
        · cases ok
          · exact hE.zvr
          · exact (VRs.cons hE.zvr (.one (.bool false))).tup
      · refine ⟨foundV ok (zeroOf ie) (some c), ?_, Post.here hm H ?_⟩
        · simp [Instr.lookup, run_underlying ht, Go.MapKept.run_getObj_map hE1, run_checkKey_int hkk, run_findKey hkk hf, hE.zero]
          cases ok <;> rfl
        · cases ok
          · exact hxc
          · exact (VRs.cons hxc (.one (.bool true))).tup
  · exact hm.elim

theorem isMapK_ok {t : TypeId} {i : TI} (hT : TyOK P t i) (h : isMapK i.k = true) : ∃ k e kk, P.underlying t = some (.map k e) ∧ P.underlying k = some (.int kk) := by
  have hk := hT.k
  cases hi : i.k with
  | map k e => rw [hi] at hk; obtain ⟨h1, kk, h2⟩ := hk; exact ⟨k, e, kk, h1, h2⟩
  | _ => rw [hi] at h; cases h

theorem grown_setBlock {b : Nat} {o o' : Obj} (w : World) : w.grownBy (setBlock w b o') (some b) :=
  ⟨rfl, rfl, rfl, by simp [setBlock], fun k _ hne => by
    have : k ≠ b := fun e => hne (by rw [e])
    simp [setBlock, Ne.symm this]⟩
theorem setBlock_at {b : Nat} {o o' : Obj} {w : World} (hb : w.heap[b]? = some o) : (setBlock w b o').heap[b]? = some o' := (heap_set hb).1

theorem upd_ok {B : Nat} {w0 : World} {Ds : List Nat} {h : Tr AObj} {n : Nat} {t : TypeId} {i : TI} {v k x a b c : Value} {Q : Value → Tr AObj → Nat → Prop}
    (hm : MW (updM v k x) h n Q) (hT : TyOK P t i) (hi : isMapK i.k = true) (hB : B ≤ w0.heap.size) (H : HR B w0 Ds ρ h w) (hv : VR ρ v a) (hk : VR ρ k b) (hx : VR ρ x c) :
    ∃ w', (Instr.mapUpdate t a b c).run P w = .ok () w' ∧ Post B w0 Ds ρ n Q undef w' := by
  obtain ⟨kt, e, kk, ht, hkk⟩ := isMapK_ok hT hi
  unfold updM at hm
  split at hm
  · rename_i m
    rw [MW.bind] at hm
    obtain ⟨es, hes, hm⟩ := MW.mapM hm
    rw [MW.opt] at hm
    obtain ⟨es', hp, hm⟩ := hm
    rw [MW.bind, MW.wr] at hm
    obtain ⟨_, hl, hm⟩ := hm
    cases hv with
    | @map _ b' s hρ =>
      obtain ⟨b2, s2, hρ2, hO⟩ := H.obj _ _ hes
      rw [hρ] at hρ2
      cases hρ2
      obtain ⟨E, hE1, hR⟩ := map_or hO
      rcases put_ok (i := 0) (kk := kk) hk hx hR hp with ⟨hf, hR', hlen⟩ | ⟨j, y, hf, hy, hyk, ⟨kb, nb, hbi⟩, hR', hlen⟩
      · refine ⟨setBlock w b' (.map (#[].append ⟨E⟩ |>.push ⟨b, c, es.length⟩) (es.length + 1)), ?_, Post.here hm (H.write hB _ hes hρ hl (grown_setBlock (o := .map ⟨E⟩ es.length) _) ?_) VR.undef⟩
        · simp [Instr.mapUpdate, run_underlying ht, Go.MapKept.run_getObj_map hE1, run_checkKey_int hkk, run_findKey hkk hf, run_setObj_map _ hE1, setBlock]
        · refine ⟨_, (setBlock_at hE1).trans (congrArg some ?_), hR'⟩
          rw [hlen]
          simp
      · have hst : (Instr.keyThatStays b b).run P w = .ok b w := by
          have hsb : Instr.sameBits 10000 b b = true := by rw [hbi]; simp [Instr.sameBits]
          simp [Instr.keyThatStays, hsb]
        refine ⟨setBlock w b' (.map (Array.modify ⟨E⟩ j fun e => { e with key := b, val := c }) es.length), ?_, Post.here hm (H.write hB _ hes hρ hl (grown_setBlock (o := .map ⟨E⟩ es.length) _) ?_) VR.undef⟩
        · simp only [Nat.zero_add] at hf
          simp [Instr.mapUpdate, run_underlying ht, Go.MapKept.run_getObj_map hE1, run_checkKey_int hkk, run_findKey hkk hf, run_setObj_map _ hE1, setBlock, hy, hyk, hst]
        · refine ⟨_, (setBlock_at hE1).trans (congrArg some ?_), hR'⟩
          rw [hlen]
          simp
  · exact hm.elim
end
end Go.IM
