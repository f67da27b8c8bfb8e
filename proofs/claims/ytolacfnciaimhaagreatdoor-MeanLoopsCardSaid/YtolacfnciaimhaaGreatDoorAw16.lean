/- A deferred call that recovers; a function that defers one. -/
import Derived.Test.YtolacfnciaimhaaGreatDoorAw15
set_option linter.unusedVariables false
set_option linter.unusedSimpArgs false
namespace Go.Proofs.YtolacfnciaimhaaGreatDoor
open Go Go.RowKit

/-- How the frame stands whose deferred call is made: it returns, or it panics. -/
def UM (K : KW) : Option AV → FrameMode → Prop
  | none, .returning => True
  | some x, .panicking chain => ∃ v, chain = [{ v, recovered := false }] ∧ VR K x v
  | _, _ => False
/-- A deferred call's contract: it returns, and all is well behind it. -/
def ADef (P : Program) (f : FuncId) (args : List AV) (h : AHeap) (u : Option AV) (R : AHeap → Prop) : Prop :=
  ∀ K w vs um, HRel K h w → VRs K args vs → UM K u um → CallsD P f vs um w fun e u' w' => (∃ v, e = .returned v) ∧ settle u' = .returning ∧ ∃ K' h', K.le K' ∧ HRel K' h' w' ∧ Glob w w' ∧ R h'

section
variable {P : Program} {n : Nat} {Q : AExit → AState → Prop}
theorem AOps.runS {ops : Array Oper} {cs : List Frame} (l : List Oper) : ∀ (k : Nat), (∀ j, l[j]? = ops[k + j]?) → ∀ (s : AState) (K0 : KW) (w0 : World) (K : KW) (a : Act) (w : World), K0.le K → Glob w0 w → SRel K n s a w → AOps P n ops Q l s →
    wpOpsS P ops (fun e a' cs' w' => cs' = cs ∧ Lift K0 n w0 Q e a' w') (List.range' k l.length) a cs w := by
  induction l with
  | nil => exact fun k _ s K0 w0 K a w hk hw R h => ⟨rfl, K, s, .normal, hk, R, hw, trivial, h⟩
  | cons o rest ih =>
    intro k hl s K0 w0 K a w hk hw R h
    have ho : ops[k]? = some o := by simpa using (hl 0).symm
    have ih' := ih (k + 1) (fun j => by have := hl (j + 1); simpa [Nat.add_assoc, Nat.add_comm 1 j] using this)
    simp only [AOps] at h
    have hg := h.wanted R
    simp only [List.length_cons, List.range'_succ, wpOpsS, ho]
    split at hg
    · rename_i hwt
      rw [hwt, if_pos rfl]
      unfold osome at hg
      split at hg
      · rename_i out hout
        have hwp := hg.run R hk hw hout (next' := fun a' w' => wpOpsS P ops (fun e a' cs' w' => cs' = cs ∧ Lift K0 n w0 Q e a' w') (List.range' (k + 1) rest.length) a' cs w') fun s' K' a' w' h1 h2 h3 h4 => ih' s' K0 w0 K' a' w' h1 h2 h3 h4
        unfold Oper.wp at hwp
        generalize (execOp a.eval o).run P w = r at hwp ⊢
        cases r with
        | halt x w' => cases x <;> first | exact hwp | exact ⟨trivial, hwp⟩ | exact ⟨rfl, hwp⟩
        | ok x w' =>
          cases x <;> first
            | exact hwp
            | exact hwp.elim
            | (refine Calls.mono hwp fun e w'' he => ?_
               cases e with
               | returned v => exact he
               | panicked c => exact ⟨trivial, he⟩
               | outgrown => obtain ⟨a0, w0', h0⟩ := he; exact ⟨a0, w0', trivial, h0⟩)
      · exact hg.elim
    · rename_i hwt
      rw [hwt, if_neg (by simp)]
      exact ih' _ K0 w0 K _ w hk hw (R.put hg.1 (.unit K)) hg.2

/-- The end of a deferred call. -/
def AFinU (R : AHeap → Prop) : AExit → AState → Prop
  | .normal, s | .ret, s => s.d = [] ∧ R s.h
  | _, _ => False

theorem ADef.of_body {f : FuncId} {fn : Func} {id : Nat} {o0 : Oper} {l : List Oper} {rest : Code} {args : List AV} {h : AHeap} {u : Option AV} {R : AHeap → Prop} (hf : P.funcs[f]? = some fn) (hb : fn.body = some (.seq (.region id (o0 :: l).toArray false) rest)) {m : Nat} (hm : fn.ntmps = m) (ha : args.length ≤ m) (hrs : fn.results = #[])
    {d0 : Nat} {ts : Array TypeId} (hop : o0.op = .call ⟨.builtin .recover, #[], ts⟩) (hgd : o0.guard = none) (hdst : o0.dst = some d0) (hd0 : d0 < m)
    (hw : AOps P m (o0 :: l).toArray (AExit.then (AWP P m rest (AFinU R)) (AFinU R)) l ⟨upd (entry 0 args) d0 (u.getD .nili), h, []⟩) : ADef P f args h u R := by
  intro K w vs um H hv hum
  refine callsD_of_wpS hf hb fun c₀ cs hc₀ => ?_
  subst hm
  have R0 := entry_rel H hv ha
  refine wpS_seq (wpS_region ?_)
  -- what recover gives
  have hrecov : ∃ (v : Value) (um' : FrameMode), settle um' = .returning ∧ VR K (u.getD .nili) v ∧
      ((∃ v', recoverD (c₀ :: cs) = some (v', { c₀ with mode := um' } :: cs) ∧ v = v') ∨ (recoverD (c₀ :: cs) = none ∧ v = .nilIface ∧ um' = um)) := by
    cases u with
    | none =>
      cases um <;> first | exact hum.elim | skip
      case returning => exact ⟨.nilIface, .returning, rfl, .nili, .inr ⟨by simp [recoverD, hc₀], rfl, rfl⟩⟩
    | some x =>
      cases um <;> first | exact hum.elim | skip
      case panicking chain =>
        obtain ⟨v, rfl, hx⟩ := hum
        exact ⟨v, .panicking [{ v, recovered := true }], rfl, hx, .inl ⟨v, by simp [recoverD, hc₀], rfl⟩⟩
  obtain ⟨v, um', hset, hvv, hor⟩ := hrecov
  have hsz : (o0 :: l).toArray.size = l.length + 1 := by simp
  have hdk : dstOK fn.ntmps o0.dst = true := by rw [hdst]; simp [dstOK, hd0]
  have R1 : SRel K fn.ntmps ⟨upd (entry 0 args) d0 (u.getD .nili), h, []⟩ (({ tmps := vs ++ Array.replicate (fn.ntmps - vs.size) undef, defers := [] } : Act).put o0.dst v) w := by
    have := R0.put (dst := o0.dst) hdk hvv
    rw [hdst] at this ⊢
    exact this
  have run0 : ∀ a : Act, (execOp a.eval o0).run P w = .ok .recover w := fun a => by
    obtain ⟨dst, op, ty, pos, after, guard⟩ := o0
    simp only at hop
    subst hop
    simp [execOp, resolve, invoke, builtin]
  have main : ∀ cs', wpOpsS P (o0 :: l).toArray (fun e a' cs'' w' => cs'' = cs' ∧ Lift K fn.ntmps w (AExit.then (AWP P fn.ntmps rest (AFinU R)) (AFinU R)) e a' w') (List.range' 1 l.length) (({ tmps := vs ++ Array.replicate (fn.ntmps - vs.size) undef, defers := [] } : Act).put o0.dst v) cs' w :=
    fun cs' => AOps.runS l 1 (fun j => by simp [Nat.add_comm 1 j]) _ K w K _ w (KW.le_refl K) (Glob.refl w) R1 hw
  have fin : ∀ e a' w' um'', Lift K fn.ntmps w (AFinU R) e a' w' → settle um'' = .returning → bodyPostS P fn c₀ cs (fun e u' w' => (∃ v, e = .returned v) ∧ settle u' = .returning ∧ ∃ K' h', K.le K' ∧ HRel K' h' w' ∧ Glob w w' ∧ R h') e a' ({ c₀ with mode := um'' } :: cs) w' := by
    intro e a' w' um'' hl hs
    obtain ⟨K', s', e', h1, h2, h3, h4, h5⟩ := hl
    have dnil : s'.d = [] → a'.defers = [] := fun h => by
      have := h2.defers
      rw [h] at this
      cases hd : a'.defers with
      | nil => rfl
      | cons d ds => rw [hd] at this; exact this.elim
    cases e' <;> first | exact h5.elim | skip
    all_goals
      cases e <;> first | exact h4.elim | exact ⟨dnil h5.1, um'', rfl, .tuple #[], results_none hrs _ _ _, ⟨_, rfl⟩, hs, K', _, h1, h2.heap, h3, h5.2⟩
  -- from the region's post to the body's
  have cont : ∀ cs' um'', cs' = { c₀ with mode := um'' } :: cs → settle um'' = .returning → ∀ e a' cs'' w', (cs'' = cs' ∧ Lift K fn.ntmps w (AExit.then (AWP P fn.ntmps rest (AFinU R)) (AFinU R)) e a' w') →
      Exit.thenS (rest.wpS P (bodyPostS P fn c₀ cs fun e u' w' => (∃ v, e = .returned v) ∧ settle u' = .returning ∧ ∃ K' h', K.le K' ∧ HRel K' h' w' ∧ Glob w w' ∧ R h'))
        (bodyPostS P fn c₀ cs fun e u' w' => (∃ v, e = .returned v) ∧ settle u' = .returning ∧ ∃ K' h', K.le K' ∧ HRel K' h' w' ∧ Glob w w' ∧ R h') e a' cs'' w' := by
    rintro cs' um'' rfl hs e a' cs'' w' ⟨rfl, hl⟩
    cases e with
    | normal =>
      obtain ⟨K', s', h1, h2, h3, h4⟩ := hl.normal
      refine wpS_of_wp (wp_mono (h4 K' a' w' h2) fun e a2 w2 hl2 => fin e a2 w2 um'' (hl2.mono h1 h3) hs)
    | exit i => exact fin _ a' w' um'' (hl.exits (by simp)) hs
    | goto i => exact fin _ a' w' um'' (hl.exits (by simp)) hs
    | ret => exact fin _ a' w' um'' (hl.exits (by simp)) hs
    | panic c => exact fin _ a' w' um'' (hl.exits (by simp)) hs
    | outgrown => exact fin _ a' w' um'' (hl.exits (by simp)) hs
  have monoS : ∀ {Q1 Q2 : Exit → Act → List Frame → World → Prop}, (∀ e a cs w, Q1 e a cs w → Q2 e a cs w) → ∀ (ix : List Nat) (a : Act) (cs : List Frame) (w : World), wpOpsS P (o0 :: l).toArray Q1 ix a cs w → wpOpsS P (o0 :: l).toArray Q2 ix a cs w := by
    intro Q1 Q2 hq ix
    induction ix with
    | nil => exact fun a cs w h => hq _ _ _ _ h
    | cons i ix ih =>
      intro a cs w h
      simp only [wpOpsS] at h ⊢
      split
      · rename_i ho
        simp only [ho] at h
        exact ih _ _ _ h
      · rename_i o ho
        simp only [ho] at h
        split
        · rename_i hwt
          rw [if_pos hwt] at h
          generalize (execOp a.eval o).run P w = r at h ⊢
          cases r with
          | halt x w' => cases x <;> first | exact hq _ _ _ _ h | exact h
          | ok x w' =>
            cases x <;> first
              | exact ih _ _ _ h
              | exact h
              | (refine Calls.mono h fun e w'' he => ?_
                 cases e with
                 | returned v => exact ih _ _ _ he
                 | panicked c => exact hq _ _ _ _ he
                 | outgrown => obtain ⟨a0, w0', h0⟩ := he; exact ⟨a0, w0', hq _ _ _ _ h0⟩)
              | exact Rows.mono h fun v w'' he => ih _ _ _ he
              | (simp only at h ⊢
                 split
                 · rename_i v' cs' hrec
                   simp only [hrec] at h
                   exact ih _ _ _ h
                 · rename_i hrec
                   simp only [hrec] at h
                   exact ih _ _ _ h)
        · rename_i hwt
          rw [if_neg hwt] at h
          exact ih _ _ _ h
  rw [hsz, List.range_eq_range', List.range'_succ]
  simp only [wpOpsS, List.getElem?_toArray, List.getElem?_cons_zero, Region.wanted, hgd, if_true, run0]
  rcases hor with ⟨v', hrec, rfl⟩ | ⟨hrec, rfl, rfl⟩
  · simp only [hrec]
    exact monoS (cont _ um' rfl hset) _ _ _ _ (main _)
  · simp only [hrec]
    refine monoS (cont _ um' ?_ hset) _ _ _ _ (main _)
    subst hc₀; rfl

/-- The end of a function that has deferred one call. -/
def AFinD (P : Program) (rs : List ResultVar) (R : ARes → AHeap → Prop) : AExit → AState → Prop
  | .normal, s | .ret, s => ∃ g args, s.d = [(g, args)] ∧ callable P g = true ∧ ADef P g args s.h none fun h' => ∃ v h1, ares P rs { s with h := h' } = some (v, h1) ∧ ∃ v' h'', le2 v' v ∧ h''.le h1 ∧ R (.ret v') h''
  | .panic x, s => ∃ g args, s.d = [(g, args)] ∧ callable P g = true ∧ ADef P g args s.h (some x) fun h' => ∃ v h1, ares P rs { s with h := h' } = some (v, h1) ∧ ∃ v' h'', le2 v' v ∧ h''.le h1 ∧ R (.ret v') h''
  | _, _ => False

theorem ACall.of_body_defer {f : FuncId} {fn : Func} {c : Code} {args : List AV} {h : AHeap} {R : ARes → AHeap → Prop} (hf : P.funcs[f]? = some fn) (hb : fn.body = some c) {m : Nat} (hm : fn.ntmps = m) (ha : args.length ≤ m) {rs : List ResultVar} (hrs : fn.results.toList = rs)
    (hw : AWP P m c (AFinD P rs R) ⟨entry 0 args, h, []⟩) : ACall P f args h R := by
  intro K w vs H hv
  refine calls_of_wp_defers hf hb ?_
  subst hm hrs
  refine wp_mono (hw K _ w (entry_rel H hv ha)) fun e a' w' ⟨K', s', e', hle, R', hg, he, hq⟩ => ?_
  have key : ∀ (u : Option AV) (um : FrameMode), UM K' u um → um ≠ .run →
      (∃ g args, s'.d = [(g, args)] ∧ callable P g = true ∧ ADef P g args s'.h u fun h' => ∃ v h1, ares P fn.results.toList { s' with h := h' } = some (v, h1) ∧ ∃ v' h'', le2 v' v ∧ h''.le h1 ∧ R (.ret v') h'') →
      Leaves P fn a'.tmps (fun e w' => ∃ K' h' r, K.le K' ∧ HRel K' h' w' ∧ Glob w w' ∧ RRel K' r e ∧ R r h') a'.defers um w' := by
    rintro u um hum hne ⟨g, args, hd, hcg, hdef⟩
    have hdr := R'.defers
    rw [hd] at hdr
    cases hds : a'.defers with
    | nil => rw [hds] at hdr; exact hdr.elim
    | cons d ds =>
      rw [hds] at hdr
      obtain ⟨⟨cap, ht, hvr⟩, htail⟩ := hdr
      cases ds with
      | cons d2 ds => exact htail.elim
      | nil =>
        obtain ⟨tg, dargs⟩ := d
        simp only at ht hvr
        subst ht
        have hinv : (invoke (.fn (.func g) cap) dargs).run P w' = .ok (.enter g (dargs ++ cap)) w' := by
          simp only [invoke, callable_run hcg]
        refine leaves_cons hne hinv ((hdef K' w' _ um R'.heap hvr hum).mono fun e u' w2 hpost => ?_)
        obtain ⟨⟨v, rfl⟩, hset, K2, h2, hle2, H2, hg2, v1, h1, hr, v', h'', hv', hh, hR⟩ := hpost
        simp only [hset]
        have R2 : SRel K2 fn.ntmps { s' with h := h2 } a' w2 := ⟨H2, R'.size, fun i => (R'.tmps i).mono hle2, R'.defers.mono hle2⟩
        obtain ⟨K3, x, hle3, hrun, H3, hv3⟩ := ares_run R2 hr
        exact ⟨x, hrun, K3, h'', .ret v', KW.le_trans hle (KW.le_trans hle2 hle3), H3.weaken hh, hg.trans hg2, hv'.vr hv3, hR⟩
  cases e' with
  | normal => cases e <;> first | exact he.elim | exact key none .returning trivial (by simp) hq
  | ret => cases e <;> first | exact he.elim | exact key none .returning trivial (by simp) hq
  | panic v =>
    cases e <;> first | exact he.elim | skip
    case panic chain => exact key (some v) (.panicking _) he (by simp) hq
  | exit i => exact hq.elim
  | goto i => exact hq.elim
end

end Go.Proofs.YtolacfnciaimhaaGreatDoor
