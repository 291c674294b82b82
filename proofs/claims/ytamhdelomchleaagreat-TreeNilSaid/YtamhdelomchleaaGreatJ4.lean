/- The leaner machine and the model: a region that draws its order. -/
import Derived.Test.YtamhdelomchleaaGreatJ3
set_option linter.unusedVariables false
set_option linter.unusedSimpArgs false
namespace Go.IM
open Go.RowKit

/-! ### One place, in whatever order -/
/-- Who of L wrote last, ahead of i. -/
def lw (L wr : Nat → Bool) : Nat → Option Nat
  | 0 => none
  | i + 1 => if L i && wr i then some i else lw L wr i

def cur {V : Type} (L wr : Nat → Bool) (vals : Nat → V) (m : Nat) : V := match lw L wr m with
  | none => vals 0
  | some j => vals (j + 1)

section
variable {V : Type} {L wr : Nat → Bool} {vals : Nat → V} {K i : Nat}
theorem cur_below {m : Nat} (hv : ∀ j, j < m → wr j = false → vals (j + 1) = vals j) (hw : ∀ j, j < m → wr j = true → L j = true) : cur L wr vals m = vals m := by
  induction m with
  | zero => rfl
  | succ m ih =>
    unfold cur lw
    cases h : (L m && wr m) with
    | true => rfl
    | false =>
      simp only [Bool.false_eq_true, if_false]
      have hwm : wr m = false := by
        cases hw' : wr m with
        | false => rfl
        | true => rw [hw', hw m (by omega) hw'] at h; cases h
      have := ih (fun j hj => hv j (by omega)) (fun j hj => hw j (by omega))
      unfold cur at this
      rw [this, hv m (by omega) hwm]

theorem cur_above {m : Nat} (hm : i ≤ m) (hw : ∀ j, i ≤ j → j < m → wr j = true → L j = false) : cur L wr vals m = cur L wr vals i := by
  induction m with
  | zero => rw [show i = 0 by omega]
  | succ m ih =>
    by_cases e : i = m + 1
    · rw [e]
    · have hlm : (L m && wr m) = false := by
        cases hw' : wr m with
        | false => simp
        | true => rw [hw m (by omega) (by omega) hw']; rfl
      have := ih (by omega) (fun j h1 h2 => hw j h1 (by omega))
      rw [← this]
      unfold cur
      rw [show lw L wr (m + 1) = lw L wr m by rw [lw, hlm]; rfl]

theorem cur_read (hi : i < K) (hv : ∀ j, j < K → wr j = false → vals (j + 1) = vals j) (hLi : L i = false) (h1 : ∀ j, j < i → wr j = true → L j = true) (h2 : ∀ j, i < j → j < K → wr j = true → L j = false) : cur L wr vals K = vals i := by
  rw [cur_above (i := i) (by omega) (fun j a b c => by
    by_cases e : j = i
    · rw [e]; exact hLi
    · exact h2 j (by omega) b c)]
  exact cur_below (fun j hj => hv j (by omega)) h1

theorem cur_write {L' : Nat → Bool} (hL : ∀ j, L' j = (decide (j = i) || L j)) (hi : i < K) (hwi : wr i = true) (h2 : ∀ j, i < j → j < K → wr j = true → L j = false) : cur L' wr vals K = vals (i + 1) := by
  rw [cur_above (i := i + 1) (by omega) (fun j a b c => by rw [hL, h2 j (by omega) b c]; simp; omega)]
  unfold cur lw
  rw [hL, hwi]
  simp

theorem cur_other {L' : Nat → Bool} (hL : ∀ j, L' j = (decide (j = i) || L j)) (hwi : wr i = false) : cur L' wr vals K = cur L wr vals K := by
  have : ∀ m, lw L' wr m = lw L wr m := by
    intro m
    induction m with
    | zero => rfl
    | succ m ih =>
      unfold lw
      rw [ih, hL]
      by_cases e : m = i
      · subst e; rw [hwi]; simp
      · simp [e]
  unfold cur
  rw [this]

theorem cur_none (hL : ∀ j, L j = false) : cur L wr vals K = vals 0 := by
  have : ∀ m, lw L wr m = none := by
    intro m
    induction m with
    | zero => rfl
    | succ m ih => unfold lw; rw [hL, ih]; rfl
  unfold cur
  rw [this]
end

/-! ### What the checks say -/
theorem checkM_spec {f : Fp} : ∀ {gs : List Fp} {i : Nat}, checkM f i gs = true → ∀ j g, gs[j]? = some g → f.bef.testBit (i + j) = true ∨ apartM g f = true
  | [], i, _, j, g, hg => by simp at hg
  | x :: gs, i, h, j, g, hg => by
    unfold checkM at h
    rw [tb_mod, Bool.and_eq_true] at h
    cases j with
    | zero =>
      simp only [List.getElem?_cons_zero, Option.some.injEq] at hg
      subst hg
      cases hb : f.bef.testBit i with
      | true => exact .inl rfl
      | false => rw [hb] at h; exact .inr h.1
    | succ j =>
      have := checkM_spec h.2 j g (by simpa using hg)
      rw [show i + (j + 1) = i.succ + j by omega]
      exact this

theorem zero_bits {a b : Nat} (h : Nat.lor a b = 0) : (∀ k, a.testBit k = false) ∧ ∀ k, b.testBit k = false :=
  ⟨fun k => by have := congrArg (·.testBit k) h; simp only [tb_lor, tb_zero, Bool.or_eq_false_iff] at this; exact this.1,
   fun k => by have := congrArg (·.testBit k) h; simp only [tb_lor, tb_zero, Bool.or_eq_false_iff] at this; exact this.2⟩

theorem apart_spec {g f : Fp} (h : apartM g f = true) : (∀ k, g.tw.testBit k = true → f.tr.testBit k = false ∧ f.tw.testBit k = false) ∧ (∀ k, g.tr.testBit k = true → f.tw.testBit k = false) ∧
    (∀ k, g.w.testBit k = true → f.r.testBit k = false ∧ f.w.testBit k = false) ∧ (∀ k, g.r.testBit k = true → f.w.testBit k = false) := by
  unfold apartM at h
  obtain ⟨h1, h2⟩ := zero_bits (Nat.eq_of_beq_eq_true h)
  have a1 := fun k => h1 k
  have a2 := fun k => h2 k
  simp only [tb_lor, tb_land, Bool.or_eq_false_iff, Bool.and_eq_false_iff] at a1 a2
  refine ⟨fun k hk => ?_, fun k hk => ?_, fun k hk => ?_, fun k hk => ?_⟩
  · exact ((a1 k).1.resolve_left (by rw [hk]; simp))
  · exact ((a1 k).2.resolve_left (by rw [hk]; simp))
  · exact ((a2 k).1.resolve_left (by rw [hk]; simp))
  · exact ((a2 k).2.resolve_left (by rw [hk]; simp))

theorem befM_spec {fs : List Fp} : ∀ {es : List Edge} {j : Nat}, (befM fs es).testBit j = true → ∃ e ∈ es, Region.binds .any e = true ∧ (e.on = j ∨ ∃ f, fs[e.on]? = some f ∧ f.bef.testBit j = true)
  | [], j, h => by simp [befM, tb_zero] at h
  | e :: es, j, h => by
    unfold befM at h
    cases hb : Region.binds .any e with
    | false =>
      rw [hb] at h
      obtain ⟨e', h1, h2⟩ := befM_spec h
      exact ⟨e', List.mem_cons_of_mem _ h1, h2⟩
    | true =>
      rw [hb] at h
      simp only [cond_true, tb_lor, tb_one, Bool.or_eq_true, decide_eq_true_eq] at h
      rcases h with (h | h) | h
      · exact ⟨e, by simp, hb, .inl h⟩
      · refine ⟨e, by simp, hb, .inr ?_⟩
        unfold befAt at h
        split at h
        · simp [tb_zero] at h
        · rename_i f l hd
          have := List.head?_drop (l := fs) (i := e.on)
          rw [hd] at this
          exact ⟨f, this.symm, h⟩
      · obtain ⟨e', h1, h2⟩ := befM_spec h
        exact ⟨e', List.mem_cons_of_mem _ h1, h2⟩

theorem edges_spec {i : Nat} : ∀ {es : List Edge}, edgesM i es = true → ∀ e ∈ es, Region.binds .any e = true → e.on < i
  | [], _, e, he, _ => by cases he
  | x :: es, h, e, he, hb => by
    unfold edgesM at h
    rw [Bool.and_eq_true] at h
    rcases List.mem_cons.1 he with rfl | he
    · have := h.1
      rw [hb] at this
      exact Nat.le_of_ble_eq_true this
    · exact edges_spec h.2 e he hb

/-! ### The run, in the text's order -/
structure Draw (T : Tab) (call : Call) (yield : Yield) (nt : Nat) (ops : List Oper) (fs : List Fp) (rest : List Oper) (tms : Nat → Tr Value) (hs : Nat → Tr AObj) (ns : Nat → Nat) (gs : List Fp) : Prop where
  len : gs.length = rest.length
  step : ∀ i o, rest[i]? = some o → ∃ f, gs[i]? = some f ∧ stepM T call yield nt ops (tms i) o (hs i) (ns i) = .ok (tms (i + 1)) (hs (i + 1)) (ns (i + 1)) f.r f.w ∧
    f.tr = looksM ops o ∧ f.tw = dstM o.dst ∧ f.bef = befM (fs ++ gs.take i) o.after.toList ∧ edgesM (fs.length + i) o.after.toList = true ∧ checkM f 0 (fs ++ gs.take i) = true

theorem draw_run {T : Tab} {call : Call} {yield : Yield} {nt : Nat} {ops : List Oper} {Q : Tr Value → Tr AObj → Nat → Prop} : ∀ {rest : List Oper} {fs : List Fp} {tm : Tr Value} {h : Tr AObj} {n : Nat}, MW (drawM T call yield nt ops rest fs tm) h n Q →
    ∃ tms hs ns gs, tms 0 = tm ∧ hs 0 = h ∧ ns 0 = n ∧ Q (tms rest.length) (hs rest.length) (ns rest.length) ∧ Draw T call yield nt ops fs rest tms hs ns gs
  | [], fs, tm, h, n, hm => ⟨fun _ => tm, fun _ => h, fun _ => n, [], rfl, rfl, rfl, hm, rfl, fun i o ho => by simp at ho⟩
  | o :: rest, fs, tm, h, n, hm => by
    unfold drawM at hm
    change Res.All Q (Res.one _ (stepM T call yield nt ops tm o h n)) at hm
    cases e : stepM T call yield nt ops tm o h n with
    | fail => rw [e] at hm; exact hm.elim
    | alt _ _ => rw [e] at hm; exact hm.elim
    | ok t1 h1 n1 r w =>
      rw [e] at hm
      change Res.All Q (Res.add r w (bif _ then drawM T call yield nt ops rest _ t1 h1 n1 else .fail)) at hm
      rw [Res.all_add] at hm
      cases hc : (edgesM fs.length o.after.toList && checkM ⟨befM fs o.after.toList, looksM ops o, dstM o.dst, r, w⟩ 0 fs) with
      | false => rw [hc] at hm; exact hm.elim
      | true =>
        rw [hc] at hm
        rw [Bool.and_eq_true] at hc
        obtain ⟨tms, hs, ns, gs, rfl, rfl, rfl, hq, hlen, hat⟩ := draw_run hm
        refine ⟨fun i => Nat.casesOn i tm tms, fun i => Nat.casesOn i h hs, fun i => Nat.casesOn i n ns, ⟨befM fs o.after.toList, looksM ops o, dstM o.dst, r, w⟩ :: gs, rfl, rfl, rfl, hq, by simp [hlen], fun i p hp => ?_⟩
        cases i with
        | zero =>
          simp only [List.getElem?_cons_zero, Option.some.injEq] at hp
          subst hp
          exact ⟨_, rfl, e, rfl, rfl, by simp, by simpa using hc.1, by simpa using hc.2⟩
        | succ i =>
          obtain ⟨f, h1, h2, h3, h4, h5, h6, h7⟩ := hat i p (by simpa using hp)
          refine ⟨f, by simpa using h1, h2, h3, h4, ?_, ?_, ?_⟩
          · rw [h5]; simp
          · rw [← h6]; simp; congr 1; omega
          · rw [← h7]; simp

theorem getD_set {listed : Array Bool} {i : Nat} (hi : i < listed.size) (j : Nat) : (listed.setIfInBounds i true).getD j false = (decide (j = i) || listed.getD j false) := by
  simp only [Array.getD_eq_getD_getElem?, Array.getElem?_setIfInBounds]
  by_cases e : i = j
  · subst e; simp [hi]
  · simp [e, Ne.symm e]

section
variable {P : Program}

def fp0 : Fp := ⟨0, 0, 0, 0, 0⟩

/-- Where a drawn region stands when those of L have been carried out. -/
structure Stand (B : Nat) (w0 : World) (Ds : List Nat) (ρ : Nam) (nt : Nat) (tms : Nat → Tr Value) (hs : Nat → Tr AObj) (ns : Nat → Nat) (gs : List Fp) (a0 : Act) (listed : Array Bool) (a : Act) (w : World) (ρL : Nam) (tm : Tr Value) (h : Tr AObj) : Prop where
  size : listed.size = gs.length
  down : ∀ i f, listed.getD i false = true → gs[i]? = some f → ∀ j, f.bef.testBit j = true → listed.getD j false = true
  tmp : ∀ t, tm.get t = cur (fun j => listed.getD j false) (fun j => ((gs.getD j fp0).tw).testBit t) (fun j => (tms j).get t) gs.length
  blk : ∀ k, h.get k = cur (fun j => listed.getD j false) (fun j => ((gs.getD j fp0).w).testBit k) (fun j => (hs j).get k) gs.length
  ext : Ext ρ ρL
  dom : ∀ x, ρL x ≠ none → ρ x ≠ none ∨ ∃ i, listed.getD i false = true ∧ ns i ≤ x ∧ x < ns (i + 1)
  hr : HR B w0 Ds ρL h w
  tr : TR ρL nt tm a.tmps
  df : a.defers = a0.defers

theorem getD_at {gs : List Fp} {i : Nat} {f : Fp} (h : gs[i]? = some f) : gs.getD i fp0 = f := by rw [List.getD_eq_getElem?_getD, h]; rfl

variable {B : Nat} {w0 : World} {Ds : List Nat} {ρ : Nam} {nt : Nat} {tms : Nat → Tr Value} {hs : Nat → Tr AObj} {ns : Nat → Nat} {gs : List Fp} {a0 : Act} {T : Tab} {call : Call} {yield : Yield} {ops : Array Oper}

theorem Draw.lt (D : Draw T call yield nt ops.toList [] ops.toList tms hs ns gs) {i : Nat} {f : Fp} (h : gs[i]? = some f) : ∃ o, ops.toList[i]? = some o ∧ stepM T call yield nt ops.toList (tms i) o (hs i) (ns i) = .ok (tms (i + 1)) (hs (i + 1)) (ns (i + 1)) f.r f.w ∧
    f.tr = looksM ops.toList o ∧ f.tw = dstM o.dst ∧ f.bef = befM (gs.take i) o.after.toList ∧ edgesM i o.after.toList = true ∧ checkM f 0 (gs.take i) = true := by
  have hi : i < ops.toList.length := by rw [← D.len]; exact (List.getElem?_eq_some_iff.1 h).1
  obtain ⟨f', h1, h2⟩ := D.step i _ (List.getElem?_eq_getElem hi)
  rw [h] at h1
  cases h1
  refine ⟨_, List.getElem?_eq_getElem hi, ?_⟩
  simpa using h2

theorem Draw.mono (D : Draw T call yield nt ops.toList [] ops.toList tms hs ns gs) (hcl : ∀ f args, Loc (call f args)) (hyl : ∀ l args, Loc (yield l args)) : ∀ {i j : Nat}, i ≤ j → j ≤ gs.length → ns i ≤ ns j := by
  intro i j hij hj
  induction j with
  | zero => rw [show i = 0 by omega]; exact Nat.le_refl _
  | succ j ih =>
    by_cases e : i = j + 1
    · rw [e]; exact Nat.le_refl _
    · have h1 := ih (by omega) (by omega)
      obtain ⟨o, _, hst, _⟩ := D.lt (List.getElem?_eq_getElem (show j < gs.length by omega))
      have hf := (Loc.stepM (T := T) hcl hyl nt ops.toList (tms j) o).fr (hs j) (ns j)
      rw [hst] at hf
      exact Nat.le_trans h1 hf.1

theorem stand_step {ro : Option Nat} {QQ : Exit → Act → World → Prop} {N : Nat} (hT : TabOK P T) (HC : CallOK P call) (HY : YieldOK P yield) (hcl : ∀ f args, Loc (call f args)) (hyl : ∀ l args, Loc (yield l args)) (hB : B ≤ w0.heap.size)
    (D : Draw T call yield nt ops.toList [] ops.toList tms hs ns gs) (hF : Fresh ρ (ns 0) N) (hN : ns gs.length ≤ N) {listed : Array Bool} {a : Act} {w : World} {ρL : Nam} {tm : Tr Value} {h : Tr AObj}
    (S : Stand B w0 Ds ρ nt tms hs ns gs a0 listed a w ρL tm h) {i : Nat} (hi : i ∈ Region.ready .any ops listed) {K : Act → World → Prop}
    (hK : ∀ a' w' ρ' tm' h', Stand B w0 Ds ρ nt tms hs ns gs a0 (listed.setIfInBounds i true) a' w' ρ' tm' h' → K a' w') : wpOpIn (Fr ro) 0 P ops QQ i K a w := by
  obtain ⟨hun, o, ho, hall⟩ := mem_ready.1 hi
  have hil : i < gs.length := by
    rw [D.len]
    have := (Array.getElem?_eq_some_iff.1 ho).1
    simpa using this
  have his : i < listed.size := by rw [S.size]; exact hil
  have hLi : listed.getD i false = false := by
    simp only [Array.getD_eq_getD_getElem?, Array.getElem?_eq_getElem his] at hun ⊢
    exact hun
  have hgi : gs[i]? = some gs[i] := List.getElem?_eq_getElem hil
  obtain ⟨o', ho', hst, htr, htw, hbef, hedge, hchk⟩ := D.lt hgi
  generalize hf : gs[i] = f at hgi hst htr htw hbef hchk
  have ho2 : ops.toList[i]? = some o := by rw [Array.getElem?_toList]; exact ho
  rw [ho2] at ho'
  cases ho'
  -- what is ahead of it has been
  have hbits : ∀ j, f.bef.testBit j = true → listed.getD j false = true := fun j hj => by
    rw [hbef] at hj
    obtain ⟨e, he, hb, hh⟩ := befM_spec hj
    have hl := hall e (by simpa using he) hb
    rcases hh with rfl | ⟨f', hf', hj'⟩
    · exact hl
    · rw [List.getElem?_take] at hf'
      split at hf'
      · exact S.down _ _ hl hf' j hj'
      · cases hf'
  -- who meets it
  have early : ∀ j g, j < i → gs[j]? = some g → apartM g f = false → listed.getD j false = true := fun j g hj hg hap => by
    have := checkM_spec hchk j g (by rw [List.getElem?_take, if_pos hj]; exact hg)
    rw [Nat.zero_add] at this
    rcases this with h1 | h1
    · exact hbits j h1
    · rw [hap] at h1; cases h1
  have late : ∀ j g, i < j → gs[j]? = some g → apartM f g = false → listed.getD j false = false := fun j g hj hg hap => by
    obtain ⟨o2, _, _, _, _, _, _, hc2⟩ := D.lt hg
    have := checkM_spec hc2 i f (by rw [List.getElem?_take, if_pos hj]; exact hgi)
    rw [Nat.zero_add] at this
    rcases this with h1 | h1
    · cases hl : listed.getD j false with
      | false => rfl
      | true => have := S.down j g hl hg i h1; rw [hLi] at this; cases this
    · rw [hap] at h1; cases h1
  have bad : ∀ {x : Bool}, (x = true → False) → x = false := fun {x} h => by cases x; rfl; exact (h rfl).elim
  have at_ : ∀ j, j < gs.length → gs[j]? = some (gs.getD j fp0) := fun j hj => by rw [getD_at (List.getElem?_eq_getElem hj)]; exact List.getElem?_eq_getElem hj
  have hfi : gs.getD i fp0 = f := getD_at hgi
  -- the places that it looks at
  have tval : ∀ j, j < gs.length → ∀ t, ((gs.getD j fp0).tw).testBit t = false → (tms (j + 1)).get t = (tms j).get t := fun j hj t hbt => by
    obtain ⟨o2, _, hs2, _, h4, _⟩ := D.lt (at_ j hj)
    rw [h4, dstM_tb] at hbt
    exact (stepM_agree (tm2 := tms j) (fun _ _ => rfl) hs2).1 t (by simpa using hbt)
  have hval : ∀ j, j < gs.length → ∀ k, ((gs.getD j fp0).w).testBit k = false → (hs (j + 1)).get k = (hs j).get k := fun j hj k hbk => by
    obtain ⟨o2, _, hs2, _⟩ := D.lt (at_ j hj)
    have hf := (Loc.stepM (T := T) hcl hyl nt ops.toList (tms j) o2).fr (hs j) (ns j)
    rw [hs2] at hf
    exact hf.2 k hbk
  have lateT : ∀ t, (f.tr.testBit t = true ∨ f.tw.testBit t = true) → ∀ j, i < j → j < gs.length → ((gs.getD j fp0).tw).testBit t = true → listed.getD j false = false := fun t ht j hj hjl hw => by
    refine late j _ hj (at_ j hjl) (bad fun hap => ?_)
    obtain ⟨p1, p2, _⟩ := apart_spec hap
    rcases ht with ht | ht
    · rw [p2 t ht] at hw; cases hw
    · rw [(p1 t ht).2] at hw; cases hw
  have earlyT : ∀ t, (f.tr.testBit t = true ∨ f.tw.testBit t = true) → ∀ j, j < i → ((gs.getD j fp0).tw).testBit t = true → listed.getD j false = true := fun t ht j hj hw => by
    refine early j _ hj (at_ j (by omega)) (bad fun hap => ?_)
    obtain ⟨p1, p2, _⟩ := apart_spec hap
    have := p1 t hw
    rcases ht with ht | ht
    · rw [this.1] at ht; cases ht
    · rw [this.2] at ht; cases ht
  have lateH : ∀ t, (f.r.testBit t = true ∨ f.w.testBit t = true) → ∀ j, i < j → j < gs.length → ((gs.getD j fp0).w).testBit t = true → listed.getD j false = false := fun t ht j hj hjl hw => by
    refine late j _ hj (at_ j hjl) (bad fun hap => ?_)
    obtain ⟨_, _, p1, p2⟩ := apart_spec hap
    rcases ht with ht | ht
    · rw [p2 t ht] at hw; cases hw
    · rw [(p1 t ht).2] at hw; cases hw
  have earlyH : ∀ t, (f.r.testBit t = true ∨ f.w.testBit t = true) → ∀ j, j < i → ((gs.getD j fp0).w).testBit t = true → listed.getD j false = true := fun t ht j hj hw => by
    refine early j _ hj (at_ j (by omega)) (bad fun hap => ?_)
    obtain ⟨_, _, p1, p2⟩ := apart_spec hap
    have := p1 t hw
    rcases ht with ht | ht
    · rw [this.1] at ht; cases ht
    · rw [this.2] at ht; cases ht
  have readT : ∀ t, f.tr.testBit t = true → tm.get t = (tms i).get t := fun t ht => by
    rw [S.tmp t]
    exact cur_read (vals := fun j => (tms j).get t) hil (fun j hj hb => tval j hj t hb) hLi (earlyT t (.inl ht)) (fun j h1 h2 h3 => lateT t (.inl ht) j h1 h2 h3)
  have readH : ∀ k, (f.r.testBit k = true ∨ f.w.testBit k = true) → h.get k = (hs i).get k := fun k hk => by
    rw [S.blk k]
    exact cur_read (vals := fun j => (hs j).get k) hil (fun j hj hb => hval j hj k hb) hLi (earlyH k hk) (fun j h1 h2 h3 => lateH k hk j h1 h2 h3)
  -- the step, here
  have hloc := Loc.stepM (T := T) hcl hyl nt ops.toList (tms i) o
  have hsim := hloc.sim (hs i) h (ns i) (by rw [hst]; trivial) (fun k hk => by
    rw [hst] at hk
    simp only [Res.foot, tb_lor, Bool.or_eq_true] at hk
    exact readH k hk)
  rw [hst] at hsim
  obtain ⟨g, hg, hgw⟩ := hsim
  have hgf := hloc.fr h (ns i)
  rw [hg] at hgf
  obtain ⟨_, t2, ht2, ht2v⟩ := stepM_agree (tm2 := tm) (fun t ht => readT t (by rw [htr]; exact ht)) hg
  have hm : MW (stepM T call yield nt ops.toList tm o) h (ns i) fun tm' h' n' => tm' = t2 ∧ h' = g ∧ n' = ns (i + 1) := by
    show Res.All _ (stepM T call yield nt ops.toList tm o h (ns i))
    rw [ht2]
    exact ⟨rfl, rfl, rfl⟩
  have hFL : Fresh ρL (ns i) (ns (i + 1)) := fun x h1 h2 => by
    cases e : ρL x with
    | none => rfl
    | some y =>
      exfalso
      rcases S.dom x (by rw [e]; simp) with hx | ⟨j, hj, h3, h4⟩
      · exact hx (hF x (Nat.le_trans (D.mono hcl hyl (Nat.zero_le _) (by omega)) h1) (Nat.lt_of_lt_of_le h2 (Nat.le_trans (D.mono hcl hyl (by omega) (Nat.le_refl _)) hN)))
      · have hjl : j < gs.length := by
          rw [← S.size]
          by_cases c : j < listed.size
          · exact c
          · simp only [Array.getD_eq_getD_getElem?, Array.getElem?_eq_none (Nat.le_of_not_lt c)] at hj
            cases hj
        rcases Nat.lt_trichotomy j i with c | c | c
        · have := D.mono hcl hyl (show j + 1 ≤ i by omega) (by omega); omega
        · subst c; rw [hLi] at hj; cases hj
        · have := D.mono hcl hyl (show i + 1 ≤ j by omega) (by omega); omega
  unfold wpOpIn
  rw [ho]
  refine step_ok hT HC HY hm (fun v h' n' hq => by rw [hq.2.2]; exact Nat.le_refl _) hFL hB S.hr S.tr (fun a' w' hp => ?_)
  obtain ⟨hd, tm', h', n', ρ', ⟨rfl, rfl, rfl⟩, hn, he, hD, H', t'⟩ := hp
  have hset := getD_set his
  refine hK a' w' ρ' tm' h' ⟨by simp [S.size], fun j f' hj hfj k hk => ?_, fun t => ?_, fun k => ?_, S.ext.trans he, fun x hx => ?_, H', t', hd.trans S.df⟩
  · rw [hset] at hj ⊢
    by_cases e : j = i
    · subst e
      rw [hgi] at hfj
      cases hfj
      rw [hbits k hk]
      simp
    · simp only [e, decide_false, Bool.false_or] at hj
      rw [S.down j f' hj hfj k hk]
      simp
  · rw [ht2v t]
    by_cases e : o.dst = some t
    · rw [if_pos e]
      have hbt : f.tw.testBit t = true := by rw [htw, dstM_tb]; simpa using e
      exact (cur_write (vals := fun j => (tms j).get t) (L := fun j => listed.getD j false) hset hil (by rw [hfi]; exact hbt) (fun j h1 h2 h3 => lateT t (.inr hbt) j h1 h2 h3)).symm
    · rw [if_neg e, S.tmp t]
      have hbt : f.tw.testBit t = false := by rw [htw, dstM_tb]; simpa using e
      exact (cur_other (vals := fun j => (tms j).get t) (L := fun j => listed.getD j false) hset (by rw [hfi]; exact hbt)).symm
  · cases hb : f.w.testBit k with
    | true =>
      rw [hgw k hb]
      exact (cur_write (vals := fun j => (hs j).get k) (L := fun j => listed.getD j false) hset hil (by rw [hfi]; exact hb) (fun j h1 h2 h3 => lateH k (.inr hb) j h1 h2 h3)).symm
    | false =>
      rw [hgf.2 k hb, S.blk k]
      exact (cur_other (vals := fun j => (hs j).get k) (L := fun j => listed.getD j false) hset (by rw [hfi]; exact hb)).symm
  · rcases hD x hx with hx | hx
    · rcases S.dom x hx with hx | ⟨j, hj, h3⟩
      · exact .inl hx
      · exact .inr ⟨j, by rw [hset, hj]; simp, h3⟩
    · exact .inr ⟨i, by rw [hset]; simp, hx⟩

/-- All have been. -/
theorem stand_all (D : Draw T call yield nt ops.toList [] ops.toList tms hs ns gs) {listed : Array Bool} {a : Act} {w : World} {ρL : Nam} {tm : Tr Value} {h : Tr AObj}
    (S : Stand B w0 Ds ρ nt tms hs ns gs a0 listed a w ρL tm h) (hr : Region.ready .any ops listed = []) : ∀ i, i < gs.length → listed.getD i false = true := by
  intro i
  induction i using Nat.strongRecOn with
  | _ i ih =>
    intro hi
    cases hl : listed.getD i false with
    | true => rfl
    | false =>
      exfalso
      obtain ⟨o, ho, _, _, _, _, hedge, _⟩ := D.lt (List.getElem?_eq_getElem hi)
      have : i ∈ Region.ready .any ops listed := mem_ready.2 ⟨by
        have his : i < listed.size := by rw [S.size]; exact hi
        simp only [Array.getD_eq_getD_getElem?, Array.getElem?_eq_getElem his] at hl ⊢
        exact hl, o, by rw [← Array.getElem?_toList]; exact ho, fun e he hb => by
        have := edges_spec hedge e (by simpa using he) hb
        exact ih _ this (by omega)⟩
      rw [hr] at this
      cases this

theorem draw_ok {ro : Option Nat} {QQ : Exit → Act → World → Prop} {Q : Tr Value → Tr AObj → Nat → Prop} {N : Nat} {tm : Tr Value} {h : Tr AObj} {n : Nat} {a : Act} {w : World} {id : Nat}
    (hM : P.follows .mixedOrders = true) (hT : TabOK P T) (HC : CallOK P call) (HY : YieldOK P yield) (hcl : ∀ f args, Loc (call f args)) (hyl : ∀ l args, Loc (yield l args)) (hB : B ≤ w0.heap.size)
    (hm : MW (drawM T call yield nt ops.toList ops.toList [] tm) h n Q) (hN : ∀ v h' n', Q v h' n' → n' ≤ N) (hF : Fresh ρ n N) (H : HR B w0 Ds ρ h w) (hTR : TR ρ nt tm a.tmps)
    (hQ : ∀ a' w', PostT B w0 Ds ρ n nt Q a a' w' → QQ .normal a' w') : (Code.region id ops true).wpIn (Fr ro) 0 P QQ a w := by
  refine wpIn_region_any hM ?_
  obtain ⟨tms, hs, ns, gs, rfl, rfl, rfl, hq, D⟩ := draw_run hm
  have hlen : ops.size = gs.length := by rw [D.len]; simp
  rw [← D.len] at hq
  have hNn := hN _ _ _ hq
  have key : ∀ (fuel : Nat) (listed : Array Bool) (a' : Act) (w' : World) (ρL : Nam) (tm' : Tr Value) (h' : Tr AObj), listed.toList.count false ≤ fuel → Stand B w0 Ds ρ nt tms hs ns gs a listed a' w' ρL tm' h' →
      wpAnyIn (Fr ro) 0 P .any ops QQ fuel listed a' w' := by
    have fin : ∀ (listed : Array Bool) (a' : Act) (w' : World) (ρL : Nam) (tm' : Tr Value) (h' : Tr AObj), Stand B w0 Ds ρ nt tms hs ns gs a listed a' w' ρL tm' h' → (∀ i, i < gs.length → listed.getD i false = true) → QQ .normal a' w' := fun listed a' w' ρL tm' h' S hall => by
      have at_ : ∀ j, j < gs.length → gs[j]? = some (gs.getD j fp0) := fun j hj => by rw [getD_at (List.getElem?_eq_getElem hj)]; exact List.getElem?_eq_getElem hj
      have et : ∀ t, tm'.get t = (tms gs.length).get t := fun t => by
        rw [S.tmp t]
        refine cur_below (vals := fun j => (tms j).get t) (fun j hj hbt => ?_) (fun j hj _ => hall j hj)
        obtain ⟨o2, _, hs2, _, h4, _⟩ := D.lt (at_ j hj)
        rw [h4, dstM_tb] at hbt
        exact (stepM_agree (tm2 := tms j) (fun _ _ => rfl) hs2).1 t (by simpa using hbt)
      have eh : ∀ k, (hs gs.length).get k = h'.get k := fun k => by
        rw [S.blk k]
        refine (cur_below (vals := fun j => (hs j).get k) (fun j hj hbk => ?_) (fun j hj _ => hall j hj)).symm
        obtain ⟨o2, _, hs2, _⟩ := D.lt (at_ j hj)
        have hf := (Loc.stepM (T := T) hcl hyl nt ops.toList (tms j) o2).fr (hs j) (ns j)
        rw [hs2] at hf
        exact hf.2 k hbk
      refine hQ _ _ ⟨S.df, _, _, _, ρL, hq, D.mono hcl hyl (Nat.zero_le _) (Nat.le_refl _), S.ext, fun x hx => ?_, S.hr.same eh, ⟨S.tr.1, fun t v hv => S.tr.2 t v (by rw [et]; exact hv)⟩⟩
      rcases S.dom x hx with hx | ⟨j, hj, h3, h4⟩
      · exact .inl hx
      · have hjl : j < gs.length := by
          rw [← S.size]
          by_cases c : j < listed.size
          · exact c
          · simp only [Array.getD_eq_getD_getElem?, Array.getElem?_eq_none (Nat.le_of_not_lt c)] at hj
            cases hj
        exact .inr ⟨Nat.le_trans (D.mono hcl hyl (Nat.zero_le j) (by omega)) h3, Nat.lt_of_lt_of_le h4 (D.mono hcl hyl (by omega) (Nat.le_refl _))⟩
    intro fuel
    induction fuel with
    | zero =>
      intro listed a' w' ρL tm' h' hc S
      have hall : ∀ i, i < gs.length → listed.getD i false = true := fun i hi => by
        have his : i < listed.size := by rw [S.size]; exact hi
        have : listed.toList.count false = 0 := by omega
        rw [List.count_eq_zero] at this
        simp only [Array.getD_eq_getD_getElem?, Array.getElem?_eq_getElem his]
        cases hb : listed[i] with
        | true => rfl
        | false => exact absurd (by rw [← hb]; simp) this
      have hr : Region.ready .any ops listed = [] := by
        cases hr : Region.ready .any ops listed with
        | nil => rfl
        | cons i l =>
          have hi : i ∈ Region.ready .any ops listed := by rw [hr]; simp
          obtain ⟨hun, o, ho, _⟩ := mem_ready.1 hi
          have hil : i < gs.length := by rw [← hlen]; exact (Array.getElem?_eq_some_iff.1 ho).1
          have his : i < listed.size := by rw [S.size]; exact hil
          have := hall i hil
          simp only [Array.getD_eq_getD_getElem?, Array.getElem?_eq_getElem his, Option.getD_some] at hun this
          rw [hun] at this
          cases this
      exact ⟨hr, fin _ _ _ _ _ _ S hall⟩
    | succ fuel ih =>
      intro listed a' w' ρL tm' h' hc S
      refine ⟨fun hr => fin _ _ _ _ _ _ S (stand_all D S hr), fun i hi => ?_⟩
      refine stand_step hT HC HY hcl hyl hB D hF hNn S hi (fun a2 w2 ρ2 tm2 h2 S2 => ih _ _ _ _ _ _ ?_ S2)
      obtain ⟨hun, o, ho, _⟩ := mem_ready.1 hi
      have his : i < listed.size := by rw [S.size, ← hlen]; exact (Array.getElem?_eq_some_iff.1 ho).1
      simp only [Array.getD_eq_getD_getElem?, Array.getElem?_eq_getElem his] at hun
      have hun : listed.toList[i]'(by simpa using his) = false := hun
      have hcnt : (listed.toList.set i true).count false = listed.toList.count false - 1 := by
        rw [List.count_set (by simpa using his), hun]
        simp
      have hpos : 0 < listed.toList.count false := List.count_pos_iff.2 (by rw [← hun]; exact List.getElem_mem _)
      rw [Array.toList_setIfInBounds, hcnt]
      omega
  refine key _ _ _ _ ρ (tms 0) (hs 0) ?_ ⟨by simp [hlen], fun i f hl => ?_, fun t => ?_, fun k => ?_, Ext.refl _, fun x hx => .inl hx, H.drew _, hTR, rfl⟩
  · simp
  · exfalso
    simp [Array.getElem?_replicate] at hl
    split at hl <;> simp at hl
  · refine (cur_none (vals := fun j => (tms j).get t) (fun j => ?_)).symm
    simp [Array.getElem?_replicate]
    split <;> rfl
  · refine (cur_none (vals := fun j => (hs j).get k) (fun j => ?_)).symm
    simp [Array.getElem?_replicate]
    split <;> rfl
end
end Go.IM
