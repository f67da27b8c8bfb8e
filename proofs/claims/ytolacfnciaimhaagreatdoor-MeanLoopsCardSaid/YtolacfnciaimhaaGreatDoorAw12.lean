/- Each piece of code by its rule; a function by its body. -/
import Derived.Test.YtolacfnciaimhaaGreatDoorAw11
import Derived.Scope
set_option linter.unusedVariables false
set_option linter.unusedSimpArgs false
namespace Go.Proofs.YtolacfnciaimhaaGreatDoor
open Go Go.RowKit

section rules
variable {P : Program} {n : Nat} {Q : AExit → AState → Prop} {s : AState}

theorem Lift.here {K K' : KW} {w w' : World} {a : Act} {e : Exit} {e' : AExit} (hk : K.le K') (R : SRel K' n s a w') (hw : Glob w w') (he : ERel K' e' e) (hq : Q e' s) : Lift K n w Q e a w' := ⟨K', s, e', hk, R, hw, he, hq⟩

def AExit.then (next : AState → Prop) (Q : AExit → AState → Prop) : AExit → AState → Prop
  | .normal, s => next s
  | e, s => Q e s

theorem Lift.exits {K : KW} {w : World} {next : AState → Prop} {e : Exit} {a : Act} {w' : World} (h : Lift K n w (AExit.then next Q) e a w') (he : e ≠ .normal) : Lift K n w Q e a w' := by
  obtain ⟨K', s', e', h1, h2, h3, h4, h5⟩ := h
  refine ⟨K', s', e', h1, h2, h3, h4, ?_⟩
  cases e' with
  | normal => cases e <;> first | (exact absurd rfl he) | (exact h4.elim)
  | _ => exact h5
theorem Lift.normal {K : KW} {w : World} {next : AState → Prop} {a : Act} {w' : World} (h : Lift K n w (AExit.then next Q) .normal a w') : ∃ K' s', K.le K' ∧ SRel K' n s' a w' ∧ Glob w w' ∧ next s' := by
  obtain ⟨K', s', e', h1, h2, h3, h4, h5⟩ := h
  cases e' with
  | normal => exact ⟨K', s', h1, h2, h3, h5⟩
  | _ => exact h4.elim

theorem AWP.seq {x y : Code} (h : AWP P n x (AExit.then (AWP P n y Q) Q) s) : AWP P n (.seq x y) Q s := by
  intro K a w R
  refine wp_seq (wp_mono (h K a w R) fun e a' w' hl => ?_)
  cases e with
  | normal =>
    obtain ⟨K', s', h1, h2, h3, h4⟩ := hl.normal
    exact wp_mono (h4 K' a' w' h2) fun _ _ _ => Lift.mono h1 h3
  | exit i => exact hl.exits (by simp)
  | goto i => exact hl.exits (by simp)
  | ret => exact hl.exits (by simp)
  | panic c => exact hl.exits (by simp)
  | outgrown => exact hl.exits (by simp)
theorem AWP.skip (h : Q .normal s) : AWP P n .skip Q s := fun K a w R => wp_skip (.here (e' := .normal) (KW.le_refl K) R (Glob.refl w) trivial h)
theorem AWP.label {l : Nat} (h : Q .normal s) : AWP P n (.label l) Q s := fun K a w R => wp_label (.here (e' := .normal) (KW.le_refl K) R (Glob.refl w) trivial h)
theorem AWP.exit {i : Nat} (h : Q (.exit i) s) : AWP P n (.exit i) Q s := fun K a w R => wp_exit (.here (e' := .exit i) (KW.le_refl K) R (Glob.refl w) rfl h)
theorem AWP.ret (h : Q .ret s) : AWP P n .ret Q s := fun K a w R => wp_ret (.here (e' := .ret) (KW.le_refl K) R (Glob.refl w) trivial h)
theorem AWP.cond {c : Operand} {x y : Code} {b : Bool} (hc : s.ev c = .bool b) (ht : b = true → AWP P n x Q s) (hf : b = false → AWP P n y Q s) : AWP P n (.cond c x y) Q s := by
  intro K a w R
  have hv := R.ev c
  rw [hc] at hv
  have he : a.eval c = .bool b := by
    generalize a.eval c = u at hv
    cases hv; rfl
  exact wp_cond_split he (fun e => ht e K a w R) (fun e => hf e K a w R)
def AExit.inBlock (id : Nat) (Q : AExit → AState → Prop) : AExit → AState → Prop
  | .exit i, s => if i = id then Q .normal s else Q (.exit i) s
  | e, s => Q e s
theorem AWP.block {id : Nat} {c : Code} (h : AWP P n c (AExit.inBlock id Q) s) : AWP P n (.block id c) Q s := by
  intro K a w R
  refine wp_block (wp_mono (h K a w R) fun e a' w' hl => ?_)
  obtain ⟨K', s', e', h1, h2, h3, h4, h5⟩ := hl
  cases e with
  | exit i =>
    cases e' <;> first | exact h4.elim | skip
    case exit j =>
      have hij : j = i := h4
      subst hij
      simp only [Exit.inBlock]
      simp only [AExit.inBlock] at h5
      split
      · rename_i hi; rw [if_pos hi] at h5; exact ⟨K', s', .normal, h1, h2, h3, trivial, h5⟩
      · rename_i hi; rw [if_neg hi] at h5; exact ⟨K', s', .exit j, h1, h2, h3, rfl, h5⟩
  | normal => cases e' <;> first | exact h4.elim | exact ⟨K', s', _, h1, h2, h3, h4, h5⟩
  | goto i => cases e' <;> first | exact h4.elim | exact ⟨K', s', _, h1, h2, h3, h4, h5⟩
  | ret => cases e' <;> first | exact h4.elim | exact ⟨K', s', _, h1, h2, h3, h4, h5⟩
  | panic c => cases e' <;> first | exact h4.elim | exact ⟨K', s', _, h1, h2, h3, h4, h5⟩
  | outgrown => cases e' <;> exact h4.elim
def AExit.noGoto (Q : AExit → AState → Prop) : AExit → AState → Prop
  | .goto _, _ => False
  | e, s => Q e s
theorem AWP.scope {c : Code} (h : AWP P n c (AExit.noGoto Q) s) : AWP P n (.scope c) Q s := by
  intro K a w R
  refine wp_scope_straight (wp_mono (h K a w R) fun e a' w' hl => ?_)
  obtain ⟨K', s', e', h1, h2, h3, h4, h5⟩ := hl
  cases e with
  | goto i => cases e' <;> first | exact h4.elim | exact h5.elim
  | normal => cases e' <;> first | exact h4.elim | exact ⟨K', s', _, h1, h2, h3, h4, h5⟩
  | exit i => cases e' <;> first | exact h4.elim | exact ⟨K', s', _, h1, h2, h3, h4, h5⟩
  | ret => cases e' <;> first | exact h4.elim | exact ⟨K', s', _, h1, h2, h3, h4, h5⟩
  | panic c => cases e' <;> first | exact h4.elim | exact ⟨K', s', _, h1, h2, h3, h4, h5⟩
  | outgrown => cases e' <;> exact h4.elim

/-- A loop: what holds at each round's head, and what each round lowers. -/
theorem AWP.loop {c : Code} (I : AState → Prop) (μ : AState → Nat) (h0 : I s) (round : ∀ s, I s → AWP P n c (AExit.then (fun s' => ∃ s'', s''.le s' ∧ I s'' ∧ μ s'' < μ s) Q) s) : AWP P n (.loop c) Q s := by
  intro K a w R b k cs
  have key : ∀ m s K a w, μ s = m → I s → SRel K n s a w → ∃ e a' w', Lift K n w Q e a' w' ∧ Arrives P (lone (b.at a (.code c :: .inLoop c :: k)) cs w) b k cs e a' w' := by
    intro m
    induction m using Nat.strongRecOn with
    | _ m ih =>
      intro s K a w hm hI R
      obtain ⟨e, a₁, w₁, hq, harr⟩ := round s hI K a w R b (.inLoop c :: k) cs
      cases e with
      | normal =>
        obtain ⟨K', s', h1, h2, h3, s'', hle, h4, h5⟩ := hq.normal
        obtain ⟨e₂, a₂, w₂, hq₂, harr₂⟩ := ih (μ s'') (hm ▸ h5) s'' K' a₁ w₁ rfl h4 (h2.weaken hle)
        exact ⟨e₂, a₂, w₂, hq₂.mono h1 h3, .of_steps (Steps.trans harr (.one step_inLoop)) harr₂⟩
      | exit id => exact ⟨_, a₁, w₁, hq.exits (by simp), .pass (x := .inLoop c) rfl (fun _ _ => .inl (by simp)) harr⟩
      | goto l => exact ⟨_, a₁, w₁, hq.exits (by simp), .pass (x := .inLoop c) rfl (fun _ _ => .inl (by simp)) harr⟩
      | ret => exact ⟨_, a₁, w₁, hq.exits (by simp), .pass (x := .inLoop c) rfl (fun _ _ => .inl (by simp)) harr⟩
      | panic ch => exact ⟨_, a₁, w₁, hq.exits (by simp), .pass (x := .inLoop c) rfl (fun _ _ => .inl (by simp)) harr⟩
      | outgrown => exact ⟨_, a₁, w₁, hq.exits (by simp), .pass (x := .inLoop c) rfl (fun _ _ => .inl (by simp)) harr⟩
  obtain ⟨e, a', w', hq, harr⟩ := key _ s K a w rfl h0 R
  exact ⟨e, a', w', hq, .of_steps (.one step_loop) harr⟩

/-! ### A region in the order of its text -/
def AState.put (s : AState) (dst : Option Tmp) (v : AV) : AState := match dst with
  | none => s
  | some d => { s with t := upd s.t d v }
def dstOK (n : Nat) : Option Tmp → Bool
  | none => true
  | some d => decide (d < n)
theorem SRel.put {K : KW} {a : Act} {w : World} (R : SRel K n s a w) {dst : Option Tmp} (hd : dstOK n dst = true) {x : AV} {v : Value} (hv : VR K x v) : SRel K n (s.put dst x) (a.put dst v) w := by
  cases dst with
  | none => exact R
  | some d =>
    have hd' : d < n := by simpa [dstOK] using hd
    refine ⟨R.heap, by simp [Act.put, R.size], fun i => ?_, R.defers⟩
    simp only [AState.put, upd, Act.put]
    rw [Array.getD_eq_getD_getElem?, Array.getElem?_setIfInBounds]
    by_cases hi : i = d
    · subst hi
      rw [if_pos rfl, if_pos rfl, if_pos (by rw [R.size]; exact hd')]
      exact hv
    · rw [if_neg hi, if_neg (Ne.symm hi)]
      have := R.tmps i
      rwa [Array.getD_eq_getD_getElem?] at this

def AGuard (ops : Array Oper) (o : Oper) (s : AState) (K : Bool → Prop) : Prop := match o.guard with
  | none => K true
  | some (j, want) => match (ops[j]?).bind (·.dst) with
    | some d => match s.t d with
      | .bool b => K (b == want)
      | .tuple _ => K false
      | _ => False
    | none => False
theorem AGuard.wanted {ops : Array Oper} {o : Oper} {k : Bool → Prop} (h : AGuard ops o s k) {K : KW} {a : Act} {w : World} (R : SRel K n s a w) : k (Region.wanted o (yielded ops a.tmps)) := by
  unfold AGuard at h
  split at h
  · rename_i hg
    simpa [Region.wanted, hg] using h
  · rename_i j want hg
    split at h
    case h_2 => exact h.elim
    rename_i d hd
    split at h
    case h_3 => exact h.elim
    case h_2 vs hb =>
      have hv := R.tmps d
      rw [hb, Array.getD_eq_getD_getElem?] at hv
      have : Region.wanted o (yielded ops a.tmps) = false := by
        simp only [Region.wanted, hg, yielded, hd, Option.bind_some]
        cases hd' : a.tmps[d]? with
        | none => cases want <;> rfl
        | some u =>
          rw [hd'] at hv
          simp only [Option.getD_some] at hv
          cases hv
          cases want <;> rfl
      rw [this]; exact h
    rename_i b hb
    have hv := R.tmps d
    rw [hb, Array.getD_eq_getD_getElem?] at hv
    have ht : a.tmps[d]? = some (.bool b) := by
      cases hd' : a.tmps[d]? with
      | none => rw [hd'] at hv; simp only [Option.getD_none] at hv; generalize hu : undef = u at hv; cases hv; cases hu
      | some u =>
        rw [hd'] at hv
        simp only [Option.getD_some] at hv
        cases hv; rfl
    have : Region.wanted o (yielded ops a.tmps) = (b == want) := by
      simp only [Region.wanted, hg, yielded, hd, Option.bind_some, ht]
      cases b <;> cases want <;> rfl
    rw [this]; exact h

/-- What an operation's outcome leads to. -/
def AStep (P : Program) (n : Nat) (dst : Option Tmp) (s : AState) (next : AState → Prop) (Q : AExit → AState → Prop) : AOut → Prop
  | .val v h' => dstOK n dst = true ∧ next ({ s with h := h' }.put dst v)
  | .skip h' => dstOK n dst = true ∧ next ({ s with h := h' }.put dst .undef)
  | .call f args h' => dstOK n dst = true ∧ ACall P f args h' fun r h'' => match r with
    | .ret v => next ({ s with h := h'' }.put dst v)
    | .panic v => Q (.panic v) { s with h := h'' }
  | .dfr f args h' => dstOK n dst = true ∧ next ({ s with h := h', d := (f, args) :: s.d }.put dst .undef)
  | .pan v h' => Q (.panic v) { s with h := h' }
  | .recov => False
  | .pick opts => dstOK n dst = true ∧ ∀ q ∈ opts, next ({ s with h := q.2 }.put dst q.1)
/-- What an option holds goes on; only the option is looked at. -/
def osome {α : Type} (o : Option α) (K : α → Prop) : Prop := match o with
  | some x => K x
  | none => False
def AOps (P : Program) (n : Nat) (ops : Array Oper) (Q : AExit → AState → Prop) : List Oper → AState → Prop
  | [], s => Q .normal s
  | o :: rest, s => AGuard ops o s fun go => match go with
    | true => osome (aop P s.h s.ev o.op) (AStep P n o.dst s (AOps P n ops Q rest) Q)
    | false => dstOK n o.dst = true ∧ AOps P n ops Q rest (s.put o.dst .unit)

theorem SRel.step {K K' : KW} {a : Act} {w w' : World} {h' : AHeap} (R : SRel K n s a w) (hk : K.le K') (H : HRel K' h' w') : SRel K' n { s with h := h' } a w' :=
  ⟨H, R.size, fun i => (R.tmps i).mono hk, R.defers.mono hk⟩

/-- One operation: what it leads to, in the model. -/
theorem AStep.run {o : Oper} {next : AState → Prop} {next' : Act → World → Prop} {K0 : KW} {w0 : World} {K : KW} {a : Act} {w : World} (R : SRel K n s a w) (hk : K0.le K) (hw : Glob w0 w)
    {out : AOut} (ho : aop P s.h s.ev o.op = some out) (h : AStep P n o.dst s next Q out) (hnext : ∀ s' K' a' w', K0.le K' → Glob w0 w' → SRel K' n s' a' w' → next s' → next' a' w') : o.wp P a w next' (Lift K0 n w0 Q) := by
  have hr := aop_run R.heap R.ev o ho
  unfold Oper.wp
  cases out with
  | val v h' =>
    obtain ⟨K', w', u, hle, he, H', hv, hg⟩ := hr
    rw [he]
    exact hnext _ K' _ w' (KW.le_trans hk hle) (hw.trans hg) ((R.step hle H').put h.1 hv) h.2
  | skip h' =>
    obtain ⟨K', w', hle, he, H', hg⟩ := hr
    rw [he]
    exact hnext _ K' _ w' (KW.le_trans hk hle) (hw.trans hg) ((R.step hle H').put h.1 (.undef _)) h.2
  | call f args h' =>
    obtain ⟨K', vs, hle, he, H', hv⟩ := hr
    rw [he]
    refine (h.2 K' w vs H' hv).mono fun e w' ⟨K2, h2, r, hle2, H2, hg2, hr2, hq⟩ => ?_
    have hK2 := KW.le_trans hk (KW.le_trans hle hle2)
    cases r with
    | ret x =>
      cases e with
      | returned v => exact hnext _ K2 _ w' hK2 (hw.trans hg2) ((R.step (KW.le_trans hle hle2) H2).put h.1 hr2) hq
      | panicked c => exact hr2.elim
      | outgrown => exact hr2.elim
    | panic x =>
      cases e with
      | returned v => exact hr2.elim
      | panicked c => exact ⟨K2, _, .panic x, hK2, R.step (KW.le_trans hle hle2) H2, hw.trans hg2, hr2, hq⟩
      | outgrown => exact hr2.elim
  | dfr f args h' =>
    obtain ⟨d, cap, he, H', ht, hv⟩ := hr
    rw [he]
    have R1 : SRel K n { s with h := h', d := (f, args) :: s.d } { a with defers := d :: a.defers } w := ⟨H', R.size, R.tmps, ⟨⟨cap, ht, hv⟩, R.defers⟩⟩
    exact hnext _ K _ w hk hw (R1.put h.1 (.undef _)) h.2
  | pan v h' =>
    obtain ⟨u, he, H', hv⟩ := hr
    rw [he]
    exact ⟨K, _, .panic v, hk, R.step (KW.le_refl K) H', hw, ⟨u, rfl, hv⟩, h⟩
  | recov => exact h.elim
  | pick opts =>
    obtain ⟨q, hq, K', w', u, hle, he, H', hv, hg⟩ := hr
    rw [he]
    exact hnext _ K' _ w' (KW.le_trans hk hle) (hw.trans hg) ((R.step hle H').put h.1 hv) (h.2 q hq)

theorem AOps.run {ops : Array Oper} (l : List Oper) : ∀ (s : AState) (K0 : KW) (w0 : World) (K : KW) (a : Act) (w : World), K0.le K → Glob w0 w → SRel K n s a w → AOps P n ops Q l s → wpList P ops (Lift K0 n w0 Q) l a w := by
  induction l with
  | nil => exact fun s K0 w0 K a w hk hw R h => ⟨K, s, .normal, hk, R, hw, trivial, h⟩
  | cons o rest ih =>
    intro s K0 w0 K a w hk hw R h
    simp only [AOps] at h
    have hg := h.wanted R
    simp only [wpList]
    split at hg
    · rename_i hwt
      rw [hwt, if_pos rfl]
      unfold osome at hg
      split at hg
      · rename_i out ho
        exact .inl (hg.run R hk hw ho fun s' K' a' w' h1 h2 h3 h4 => ih s' K0 w0 K' a' w' h1 h2 h3 h4)
      · exact hg.elim
    · rename_i hwt
      rw [hwt, if_neg (by simp)]
      exact ih _ K0 w0 K _ w hk hw (R.put hg.1 (.unit K)) hg.2
theorem AWP.region {id : Nat} {ops : Array Oper} (h : AOps P n ops Q ops.toList s) : AWP P n (.region id ops false) Q s :=
  fun K a w R => wp_region_list (AOps.run _ s K w K a w (KW.le_refl K) (Glob.refl w) R h)
end rules

/-! ### A function by its body -/
def ares1 (P : Program) (s : AState) : ResultVar → Option AV
  | .tmp t => some (s.t t)
  | .cell a t => aload P s.h t (s.t a)
def aresl (P : Program) (s : AState) : List ResultVar → Option (List AV)
  | [] => some []
  | r :: rs => (ares1 P s r).bind fun x => (aresl P s rs).map fun xs => x :: xs
def one : List AV → AV
  | [x] => x
  | xs => .tuple xs
def ares (P : Program) (rs : List ResultVar) (s : AState) : Option (AV × AHeap) := (aresl P s rs).bind fun xs => (afrzl s.h xs).map fun q => (one q.1, q.2)
def AFin (P : Program) (rs : List ResultVar) (R : ARes → AHeap → Prop) : AExit → AState → Prop
  | .normal, s | .ret, s => s.d = [] ∧ ∃ v h', ares P rs s = some (v, h') ∧ ∃ v' h'', le2 v' v ∧ h''.le h' ∧ R (.ret v') h''
  | .panic v, s => s.d = [] ∧ ∃ h'', h''.le s.h ∧ R (.panic v) h''
  | _, _ => False

def resOne (tmps : Array Value) : ResultVar → Sem Value
  | .tmp t => pure (tmps.getD t undef)
  | .cell x t => do loadVar t (← asAddr (tmps.getD x undef))
theorem results_eq (fn : Func) (tmps : Array Value) : results fn tmps = (do let vs ← fn.results.mapM (resOne tmps); pure (if h : vs.size = 1 then vs[0] else .tuple vs)) := rfl
theorem resOne_run {P : Program} {K : KW} {n : Nat} {s : AState} {a : Act} {w : World} (R : SRel K n s a w) {r : ResultVar} {x : AV} (hx : ares1 P s r = some x) : ∃ v, (resOne a.tmps r).run P w = .ok v w ∧ VR K x v := by
  cases r with
  | tmp t =>
    simp only [ares1, Option.some.injEq] at hx
    subst hx
    exact ⟨_, rfl, R.tmps t⟩
  | cell c t =>
    simp only [ares1] at hx
    have hc := R.tmps c
    obtain ⟨v, hv1, hv2⟩ := aload_run R.heap hc hx
    refine ⟨v, ?_, hv2⟩
    simp only [resOne]
    generalize a.tmps.getD c undef = u at hc hv1 ⊢
    cases u <;> first
      | (simp [Instr.loadAt, Instr.sureAddr, Result.andThen] at hv1; done)
      | skip
    case pointer ad =>
      cases ad with
      | none => simp [Instr.loadAt, Instr.sureAddr, Result.andThen] at hv1
      | some ad => simpa [Instr.loadAt, Instr.sureAddr, asAddr] using hv1
theorem aresl_run {P : Program} {K : KW} {n : Nat} {s : AState} {a : Act} {w : World} (R : SRel K n s a w) : ∀ (rs : List ResultVar) (xs : List AV), aresl P s rs = some xs →
    ∃ vs : List Value, (rs.mapM (resOne a.tmps)).run P w = .ok vs w ∧ vs.length = xs.length ∧ ∀ (i : Nat) x v, xs[i]? = some x → vs[i]? = some v → VR K x v
  | [], xs, h => by
    simp only [aresl, Option.some.injEq] at h
    subst h
    exact ⟨[], by simp, rfl, fun i x v e => by simp at e⟩
  | r :: rs, xs, h => by
    simp only [aresl] at h
    obtain ⟨x, hx, h1⟩ := Option.bind_eq_some_iff.1 h
    obtain ⟨ys, hy, rfl⟩ := Option.map_eq_some_iff.1 h1
    obtain ⟨vs, hr, hn, hv⟩ := aresl_run R rs ys hy
    obtain ⟨v, hv1, hv2⟩ := resOne_run (P := P) R hx
    refine ⟨v :: vs, ?_, by simp [hn], fun i x' v' ex ev => ?_⟩
    · rw [List.mapM_cons, Sem.run_bind, hv1, Result.andThen_ok, Sem.run_bind, hr]
      rfl
    · cases i with
      | zero => simp only [List.getElem?_cons_zero, Option.some.injEq] at ex ev; subst ex; subst ev; exact hv2
      | succ i => exact hv i x' v' (by simpa using ex) (by simpa using ev)

theorem ares_run {P : Program} {K : KW} {n : Nat} {s : AState} {a : Act} {w : World} (R : SRel K n s a w) {fn : Func} {x : AV} {h' : AHeap} (h : ares P fn.results.toList s = some (x, h')) :
    ∃ K' v, K.le K' ∧ (results fn a.tmps).run P w = .ok v w ∧ HRel K' h' w ∧ VR K' x v := by
  unfold ares at h
  obtain ⟨xs, hx, h1⟩ := Option.bind_eq_some_iff.1 h
  obtain ⟨⟨ys, h2⟩, hy, h3⟩ := Option.map_eq_some_iff.1 h1
  simp only [Prod.mk.injEq] at h3
  obtain ⟨rfl, rfl⟩ := h3
  obtain ⟨vs, hr, hn, hv⟩ := aresl_run R _ xs hx
  obtain ⟨K', hle, H', hn', hv'⟩ := afrzl_run R.heap hy
  refine ⟨K', (if hh : vs.length = 1 then vs[0] else .tuple vs.toArray), hle, ?_, H', ?_⟩
  · rw [results_eq, Sem.run_bind, Array.mapM_eq_mapM_toList, Sem.run_map, hr]
    simp only [Result.andThen_ok, Sem.run_pure, List.size_toArray, List.getElem_toArray]
  · have hall : ∀ (i : Nat) y v, ys[i]? = some y → vs[i]? = some v → VR K' y v := fun i y v ey ev => by
      have hi : i < xs.length := by rw [← hn']; exact (List.getElem?_eq_some_iff.1 ey).1
      exact hv' i _ y (List.getElem?_eq_getElem hi) ey v (hv i _ v (List.getElem?_eq_getElem hi) ev)
    match ys, vs, hn, hn', hall with
    | [y], [v], _, _, hall => simpa [one] using hall 0 y v rfl rfl
    | [], [], _, _, hall => exact .tuple _ _ rfl (fun i x e => by simp at e)
    | y1 :: y2 :: ys, v1 :: v2 :: vs, hn, hn', hall =>
      have := VRs.of_list (K := K') (xs := y1 :: y2 :: ys) (vs := v1 :: v2 :: vs) (by rw [hn, ← hn']) hall
      simpa [one] using VR.tuple _ _ this.1 this.2
    | [], v :: vs, hn, hn', _ => simp at hn hn'; omega
    | y :: ys, [], hn, hn', _ => simp at hn hn'; omega
    | [y], v1 :: v2 :: vs, hn, hn', _ => simp at hn hn'; omega
    | y1 :: y2 :: ys, [v], hn, hn', _ => simp at hn hn'; omega

theorem entry_rel {K : KW} {h : AHeap} {w : World} {args : List AV} {vs : Array Value} {m : Nat} (H : HRel K h w) (hv : VRs K args vs) (hm : args.length ≤ m) :
    SRel K m ⟨entry 0 args, h, []⟩ { tmps := vs ++ Array.replicate (m - vs.size) undef, defers := [] } w := by
  refine ⟨H, by simp [hv.1]; omega, fun i => ?_, trivial⟩
  simp only [entry_at, Nat.zero_le, if_true, Nat.sub_zero]
  by_cases hi : i < args.length
  · have := hv.2 i _ (List.getElem?_eq_getElem hi)
    rw [Array.getD_eq_getD_getElem?] at this ⊢
    rw [List.getElem?_eq_getElem hi, Array.getElem?_append_left (by rw [hv.1]; exact hi)]
    exact this
  · rw [List.getElem?_eq_none (by omega)]
    exact .undef _

theorem ACall.of_body {P : Program} {f : FuncId} {fn : Func} {c : Code} {args : List AV} {h : AHeap} {R : ARes → AHeap → Prop} (hf : P.funcs[f]? = some fn) (hb : fn.body = some c) {m : Nat} (hm : fn.ntmps = m) (ha : args.length ≤ m) {rs : List ResultVar} (hrs : fn.results.toList = rs)
    (hw : AWP P m c (AFin P rs R) ⟨entry 0 args, h, []⟩) : ACall P f args h R := by
  intro K w vs H hv
  refine calls_of_wp hf hb ?_
  subst hm hrs
  refine wp_mono (hw K _ w (entry_rel H hv ha)) fun e a' w' ⟨K', s', e', hle, R', hg, he, hq⟩ => ?_
  have dnil : s'.d = [] → a'.defers = [] := fun h => by
    have := R'.defers
    rw [h] at this
    cases hd : a'.defers with
    | nil => rfl
    | cons d ds => rw [hd] at this; exact this.elim
  have fin : (s'.d = [] ∧ ∃ v h', ares P fn.results.toList s' = some (v, h') ∧ ∃ v' h'', le2 v' v ∧ h''.le h' ∧ R (.ret v') h'') →
      a'.defers = [] ∧ ∃ v, (results fn a'.tmps).run P w' = .ok v w' ∧ (∃ K' h' r, K.le K' ∧ HRel K' h' w' ∧ Glob w w' ∧ RRel K' r (.returned v) ∧ R r h') := by
    rintro ⟨hd, v, h', hr, v', h'', hl, hh, hR⟩
    obtain ⟨K2, u, hle2, hrun, H2, hv2⟩ := ares_run R' hr
    exact ⟨dnil hd, u, hrun, K2, h'', .ret v', KW.le_trans hle hle2, H2.weaken hh, hg, hl.vr hv2, hR⟩
  cases e' with
  | normal => cases e <;> first | exact he.elim | exact fin hq
  | ret => cases e <;> first | exact he.elim | exact fin hq
  | panic v =>
    cases e <;> first | exact he.elim | skip
    case panic chain =>
      obtain ⟨hd, h'', hh, hR⟩ := hq
      exact ⟨dnil hd, K', h'', .panic v, hle, R'.heap.weaken hh, hg, he, hR⟩
  | exit i => exact hq.elim
  | goto i => exact hq.elim

end Go.Proofs.YtolacfnciaimhaaGreatDoor
