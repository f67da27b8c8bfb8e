/- A region that draws its order: one order, in which what is light comes first, serves for all. -/
import Derived.Test.YtolacfnciaimhaaGreatDoorAw14
set_option linter.unusedVariables false
set_option linter.unusedSimpArgs false
namespace Go.Proofs.YtolacfnciaimhaaGreatDoor
open Go Go.RowKit

section
variable {P : Program} {n : Nat} {ops : Array Oper} {Q : AExit → AState → Prop}

def AGv (ops : Array Oper) (o : Oper) (s : AState) : Option Bool := match o.guard with
  | none => some true
  | some (j, want) => match (ops[j]?).bind (·.dst) with
    | some d => match s.t d with
      | .bool b => some (b == want)
      | .tuple _ => some false
      | _ => none
    | none => none
theorem AGuard_iff {o : Oper} {s : AState} {K : Bool → Prop} : AGuard ops o s K ↔ ∃ g, AGv ops o s = some g ∧ K g := by
  unfold AGuard AGv
  cases hg : o.guard with
  | none => exact ⟨fun h => ⟨true, rfl, h⟩, fun ⟨g, e, h⟩ => by cases e; exact h⟩
  | some p =>
    obtain ⟨j, want⟩ := p
    simp only
    cases ht : (ops[j]?).bind (·.dst) with
    | none => exact ⟨fun h => h.elim, fun ⟨g, e, h⟩ => by cases e⟩
    | some d =>
      simp only
      cases hs : s.t d <;> simp only <;> first
        | exact ⟨fun h => ⟨_, rfl, h⟩, fun ⟨g, e, h⟩ => by cases e; exact h⟩
        | exact ⟨fun h => h.elim, fun ⟨g, e, h⟩ => by cases e⟩

/-- One operation of a region. -/
def AOp1 (P : Program) (n : Nat) (ops : Array Oper) (Q : AExit → AState → Prop) (i : Nat) (next : AState → Prop) (s : AState) : Prop := match ops[i]? with
  | none => next s
  | some o => AGuard ops o s fun go => match go with
    | true => osome (aop P s.h s.ev o.op) (AStep P n o.dst s next Q)
    | false => dstOK n o.dst = true ∧ next (s.put o.dst .unit)
/-- Whatever order is picked from here on; what is held is shown anew behind those that need it. -/
def AAny (P : Program) (n : Nat) (ops : Array Oper) (Q : AExit → AState → Prop) (hm : Nat → Nat → Option AObj) (need : Nat → Nat → Bool) : Nat → Array Bool → AState → Prop
  | 0, listed, s => Region.ready .any ops listed = [] ∧ Q .normal s
  | fuel + 1, listed, s => (Region.ready .any ops listed = [] → Q .normal s) ∧
    ∀ i ∈ Region.ready .any ops listed, AOp1 P n ops Q i (fun s' => (∀ q, need q i = true → Subg (hm q) s.h.get → Subg (hm q) s'.h.get) ∧ AAny P n ops Q hm need fuel (listed.setIfInBounds i true) s') s

theorem AAny.sound {hm : Nat → Nat → Option AObj} {need : Nat → Nat → Bool} : ∀ (fuel : Nat) (listed : Array Bool) (s : AState) (K0 : KW) (w0 : World) (K : KW) (a : Act) (w : World), K0.le K → Glob w0 w → SRel K n s a w →
    AAny P n ops Q hm need fuel listed s → wpAny P .any ops (Lift K0 n w0 Q) fuel listed a w
  | 0, listed, s, K0, w0, K, a, w, hk, hw, R, h => ⟨h.1, K, s, .normal, hk, R, hw, trivial, h.2⟩
  | fuel + 1, listed, s, K0, w0, K, a, w, hk, hw, R, h => by
    refine ⟨fun h0 => ⟨K, s, .normal, hk, R, hw, trivial, h.1 h0⟩, fun i hi => ?_⟩
    have h1 := h.2 i hi
    unfold AOp1 at h1
    unfold wpOp
    cases ho : ops[i]? with
    | none =>
      simp only [ho] at h1 ⊢
      exact AAny.sound fuel _ s K0 w0 K a w hk hw R h1.2
    | some o =>
      simp only [ho] at h1 ⊢
      have hg := h1.wanted R
      split at hg
      · rename_i hwt
        rw [hwt, if_pos rfl]
        unfold osome at hg
        split at hg
        · rename_i out hout
          exact .inl (hg.run R hk hw hout fun s' K' a' w' h1 h2 h3 h4 => AAny.sound fuel _ s' K0 w0 K' a' w' h1 h2 h3 h4.2)
        · exact hg.elim
      · rename_i hwt
        rw [hwt, if_neg (by simp)]
        exact AAny.sound fuel _ _ K0 w0 K _ w hk hw (R.put hg.1 (.unit K)) hg.2.2

/-- A post that does not hang, behind a panic, on what the region's operations give. -/
def QP (ops : Array Oper) (Q : AExit → AState → Prop) : Prop := ∀ v (s s' : AState), s.h = s'.h → s.d = s'.d → (∀ i, (∀ o ∈ ops, o.dst ≠ some i) → s.t i = s'.t i) → Q (.panic v) s → Q (.panic v) s'
theorem QP.fin {P : Program} {rs : List ResultVar} {R : ARes → AHeap → Prop} : QP ops (AFin P rs R) := fun v s s' hh hd ht h => by
  simp only [AFin] at h ⊢
  rw [← hh, ← hd]; exact h
theorem QP.then {next : AState → Prop} (h : QP ops Q) : QP ops (AExit.then next Q) := fun v s s' hh hd ht h0 => h v s s' hh hd ht h0
theorem QP.inBlock {i : Nat} (h : QP ops Q) : QP ops (AExit.inBlock i Q) := fun v s s' hh hd ht h0 => h v s s' hh hd ht h0
theorem QP.noGoto (h : QP ops Q) : QP ops (AExit.noGoto Q) := fun v s s' hh hd ht h0 => h v s s' hh hd ht h0
theorem put_t {s : AState} {d : Option Tmp} {x : AV} {i : Nat} (h : d ≠ some i) : (s.put d x).t i = s.t i := by
  cases d with
  | none => rfl
  | some d =>
    simp only [AState.put, upd]
    rw [if_neg (fun e => h (by rw [e]))]

/-! ### What comes before what -/
def reach (ops : Array Oper) (i : Nat) : Nat → Nat → Bool
  | 0, _ => false
  | f + 1, j => match ops[j]? with
    | some o => o.after.any fun e => Region.binds .any e && (e.on == i || reach ops i f e.on)
    | none => false
def Down (ops : Array Oper) (listed : Array Bool) : Prop := ∀ j o, ops[j]? = some o → listed.getD j false = true → ∀ e ∈ o.after, Region.binds .any e = true → listed.getD e.on false = true
theorem reach_listed {listed : Array Bool} (hd : Down ops listed) {i : Nat} : ∀ (f j : Nat) (o : Oper), ops[j]? = some o → (∀ e ∈ o.after, Region.binds .any e = true → listed.getD e.on false = true) → reach ops i f j = true → listed.getD i false = true
  | 0, _, _, _, _, h => by simp [reach] at h
  | f + 1, j, o, ho, hall, h => by
    simp only [reach, ho, Array.any_eq_true, Bool.and_eq_true, Bool.or_eq_true, beq_iff_eq] at h
    obtain ⟨k, hk, hb, h⟩ := h
    have hm : o.after[k] ∈ o.after := Array.getElem_mem hk
    have hl := hall _ hm hb
    rcases h with h | h
    · rw [← h]; exact hl
    · have hj' : ∃ o', ops[(o.after[k]).on]? = some o' := by
        cases hc : ops[(o.after[k]).on]? with
        | some o' => exact ⟨o', rfl⟩
        | none =>
          cases f with
          | zero => simp [reach] at h
          | succ f => simp [reach, hc] at h
      obtain ⟨o', ho'⟩ := hj'
      exact reach_listed hd f _ o' ho' (hd _ o' ho' hl) h
theorem Down.set {listed : Array Bool} (hd : Down ops listed) {i : Nat} {oi : Oper} (hi : ops[i]? = some oi) (hall : ∀ e ∈ oi.after, Region.binds .any e = true → listed.getD e.on false = true) : Down ops (listed.setIfInBounds i true) := by
  intro j o ho hl e he hb
  by_cases hji : i = j
  · subst hji
    rw [hi] at ho; cases ho
    exact getD_set_true (hall e he hb)
  · rw [getD_set_ne false hji] at hl
    exact getD_set_true (hd j o ho hl e he hb)
theorem Down.none (k : Nat) : Down ops (Array.replicate k false) := fun j o ho hl => by
  rw [Array.getD_eq_getD_getElem?, Array.getElem?_replicate] at hl
  split at hl <;> simp at hl

/-! ### Two that are apart -/
theorem ev_put {s : AState} {d : Option Tmp} {x : AV} {o : Operand} (h : ∀ k, d = some k → o ≠ .tmp k) : (s.put d x).ev o = s.ev o := by
  cases d with
  | none => rfl
  | some k =>
    cases o with
    | tmp t =>
      have : t ≠ k := fun e => h k rfl (by rw [e])
      simp [AState.ev, AState.put, upd, this]
    | _ => rfl
theorem looks_operand {o : Oper} {t : Tmp} (h : Operand.tmp t ∈ o.op.operands) : t ∈ o.looksAt ops := by
  unfold Oper.looksAt
  refine List.mem_append.2 (.inl ?_)
  rw [List.mem_filterMap]
  exact ⟨.tmp t, by simpa using h, rfl⟩
theorem aop_put {s : AState} {o : Oper} {d : Option Tmp} {x : AV} {h : AHeap} (hd : ∀ k, d = some k → k ∉ o.looksAt ops) : aop P h (s.put d x).ev o.op = aop P h s.ev o.op :=
  aop_congr fun y hy => ev_put fun k hk e => hd k hk (by subst e; exact looks_operand hy)
theorem AGv_put {s : AState} {o : Oper} {d : Option Tmp} {x : AV} (hd : ∀ k, d = some k → k ∉ o.looksAt ops) : AGv ops o (s.put d x) = AGv ops o s := by
  unfold AGv
  cases hg : o.guard with
  | none => rfl
  | some p =>
    obtain ⟨j, want⟩ := p
    simp only
    cases ht : (ops[j]?).bind (·.dst) with
    | none => rfl
    | some t =>
      simp only
      cases d with
      | none => rfl
      | some k =>
        have : t ≠ k := fun e => hd k rfl (by subst e; simp [Oper.looksAt, hg, ht])
        simp [AState.put, upd, this]
theorem AGv_heap {s : AState} {o : Oper} {h : AHeap} {ds : List (FuncId × List AV)} : AGv ops o { s with h := h, d := ds } = AGv ops o s := rfl
theorem put_comm {s : AState} {d e : Option Tmp} {x y : AV} (h : ∀ k, d = some k → e ≠ some k) : (s.put d x).put e y = (s.put e y).put d x := by
  cases d with
  | none => rfl
  | some k =>
    cases e with
    | none => rfl
    | some m =>
      have hne : k ≠ m := fun he => h k rfl (by rw [he])
      simp only [AState.put, AState.mk.injEq, and_true]
      funext i
      simp only [upd]
      by_cases h1 : i = m
      · by_cases h2 : i = k
        · exact absurd (h2.symm.trans h1) hne
        · simp [h1, Ne.symm hne]
      · by_cases h2 : i = k <;> simp [h1, h2, hne]

/-- What a light operation gives. -/
def LYields (P : Program) (ops : Array Oper) (hl : AHeap) (o : Oper) (s : AState) (x : AV) : Prop :=
  ∃ g, AGv ops o s = some g ∧ (g = true → aopL P hl s.ev o.op = some x ∨ ∃ q, aopC P s.ev o.op = some q ∧ APure P q x) ∧ (g = false → x = .unit)
theorem LYields.op1 {hl : AHeap} {o : Oper} {s : AState} {x : AV} {i : Nat} (hi : ops[i]? = some o) (hd : dstOK n o.dst = true) (hy : LYields P ops hl o s x) (hs : Subg hl.get s.h.get) {next : AState → Prop} (h : next (s.put o.dst x)) : AOp1 P n ops Q i next s := by
  unfold AOp1
  simp only [hi]
  obtain ⟨g, hg, h1, h2⟩ := hy
  refine AGuard_iff.2 ⟨g, hg, ?_⟩
  cases g with
  | true =>
    simp only
    rcases h1 rfl with h1 | ⟨q, hq, hp⟩
    · rw [aopL_aop hs h1]
      exact ⟨hd, h⟩
    · rw [aopC_aop hq]
      refine ⟨hd, (hp s.h).mono fun r h' hr => ?_⟩
      obtain ⟨rfl, rfl⟩ := hr
      exact h
  | false =>
    have := h2 rfl
    subst this
    exact ⟨hd, h⟩
theorem LYields.same {hl : AHeap} {o : Oper} {s : AState} {x y : AV} {d : Option Tmp} (hd : ∀ k, d = some k → k ∉ o.looksAt ops) {h : AHeap} {ds : List (FuncId × List AV)} (hy : LYields P ops hl o s x) : LYields P ops hl o ({ s with h := h, d := ds }.put d y) x := by
  obtain ⟨g, hg, h1, h2⟩ := hy
  refine ⟨g, by rw [AGv_put hd]; exact hg, fun e => ?_, h2⟩
  have hev : ∀ z ∈ o.op.operands, ({ s with h := h, d := ds }.put d y).ev z = s.ev z := fun z hz => (ev_put fun k hk e => hd k hk (by subst e; exact looks_operand hz)).trans (by cases z <;> rfl)
  rcases h1 e with h1 | ⟨q, hq, hp⟩
  · exact .inl (by rw [← h1]; exact aopL_congr hev)
  · exact .inr ⟨q, by rw [← hq]; exact aopC_congr hev, hp⟩

/-- What is light may be taken first. -/
theorem AAny_first {hm : Nat → Nat → Option AObj} {need : Nat → Nat → Bool} {i : Nat} {oi : Oper} {x : AV} {hl : AHeap} (hi : ops[i]? = some oi) (hdst : dstOK n oi.dst = true) (hQ : QP ops Q) (m : Nat)
    (hn : (∀ l, hl.get l = none) ∨ (hl.get = hm i ∧ ∀ j, j ≠ i → j < ops.size → reach ops i m j = false → need i j = true)) :
    ∀ (fuel : Nat) (listed : Array Bool) (s : AState), Down ops listed →
      (∀ j oj, ops[j]? = some oj → j ≠ i → listed.getD j true = false → (∀ e ∈ oj.after, Region.binds .any e = true → e.on ≠ i) → oi.apart ops oj = true) →
      i ∈ Region.ready .any ops listed → LYields P ops hl oi s x → Subg hl.get s.h.get →
      AAny P n ops Q hm need fuel (listed.setIfInBounds i true) (s.put oi.dst x) → AAny P n ops Q hm need (fuel + 1) listed s := by
  intro fuel
  induction fuel with
  | zero =>
    intro listed s hdn _ hr hy hS H
    refine ⟨fun h => (by rw [h] at hr; cases hr), fun j hj => ?_⟩
    by_cases hji : j = i
    · subst hji; exact hy.op1 hi hdst hS ⟨fun _ _ h => (by rw [show (s.put oi.dst x).h = s.h by cases oi.dst <;> rfl]; exact h), H⟩
    · have := ready_mono hj hji
      rw [H.1] at this
      cases this
  | succ fuel ih =>
    intro listed s hdn hfree hr hy hS H
    refine ⟨fun h => (by rw [h] at hr; cases hr), fun j hj => ?_⟩
    by_cases hji : j = i
    · subst hji; exact hy.op1 hi hdst hS ⟨fun _ _ h => (by rw [show (s.put oi.dst x).h = s.h by cases oi.dst <;> rfl]; exact h), H⟩
    obtain ⟨hjun, oj, hoj, hall⟩ := mem_ready.1 hj
    have hiun := (mem_ready.1 hr).1
    have hil : listed.getD i false = false := by
      rcases Nat.lt_or_ge i listed.size with h' | h'
      · simp [h'] at hiun ⊢; exact hiun
      · simp [Array.getElem?_eq_none h'] at hiun
    have hnot : ∀ e ∈ oj.after, Region.binds .any e = true → e.on ≠ i := fun e he hb heq => by
      have h1 := hall e he hb
      rw [heq, hil] at h1; cases h1
    have hap := hfree j oj hoj hji hjun hnot
    obtain ⟨a1, a2, a3⟩ := Oper.apart_spec hap
    have hnr : reach ops i m j = false := by
      cases hre : reach ops i m j with
      | false => rfl
      | true => rw [reach_listed hdn m j oj hoj hall hre] at hil; cases hil
    have hjlt : j < ops.size := (Array.getElem?_eq_some_iff.1 hoj).1
    have hfree' : ∀ k ok, ops[k]? = some ok → k ≠ i → (listed.setIfInBounds j true).getD k true = false →
        (∀ e ∈ ok.after, Region.binds .any e = true → e.on ≠ i) → oi.apart ops ok = true := fun k ok hk hki hun hno => by
      refine hfree k ok hk hki ?_ hno
      by_cases hjk : j = k
      · subst hjk; exact hjun
      · rw [getD_set_ne true hjk] at hun; exact hun
    have hdn' : Down ops (listed.setIfInBounds j true) := hdn.set hoj hall
    have hready' := ready_mono hr (Ne.symm hji)
    -- what comes behind number j, number i being still to come
    have after : ∀ s', ((∀ q, need q j = true → Subg (hm q) s.h.get → Subg (hm q) (s'.put oi.dst x).h.get) ∧ AAny P n ops Q hm need fuel ((listed.setIfInBounds i true).setIfInBounds j true) (s'.put oi.dst x)) → LYields P ops hl oi s' x →
        ((∀ q, need q j = true → Subg (hm q) s.h.get → Subg (hm q) s'.h.get) ∧ AAny P n ops Q hm need (fuel + 1) (listed.setIfInBounds j true) s') := by
      intro s' h1 hy'
      have hh : (s'.put oi.dst x).h = s'.h := by cases oi.dst <;> rfl
      rw [hh] at h1
      refine ⟨h1.1, ih (listed.setIfInBounds j true) s' hdn' hfree' hready' hy' ?_ ?_⟩
      · rcases hn with h0 | ⟨h0, h2⟩
        · exact fun l y e => by rw [h0 l] at e; cases e
        · rw [h0]; rw [h0] at hS; exact h1.1 i (h2 j hji hjlt hnr) hS
      · rw [Array.setIfInBounds_comm _ _ hji]; exact h1.2
    have h1 := H.2 j (ready_mono hj hji)
    unfold AOp1 at h1 ⊢
    simp only [hoj] at h1 ⊢
    obtain ⟨g, hg, h2⟩ := AGuard_iff.1 h1
    rw [AGv_put a1] at hg
    refine AGuard_iff.2 ⟨g, hg, ?_⟩
    have hh : (s.put oi.dst x).h = s.h := by cases oi.dst <;> rfl
    have hd : (s.put oi.dst x).d = s.d := by cases oi.dst <;> rfl
    cases g with
    | false =>
      simp only at h2 ⊢
      rw [hh] at h2
      refine ⟨h2.1, after _ ?_ ?_⟩
      · rw [← put_comm a2]; exact h2.2
      · exact LYields.same (s := s) (h := s.h) (ds := s.d) a3 hy
    | true =>
      simp only at h2 ⊢
      rw [hh, aop_put a1] at h2
      unfold osome at h2 ⊢
      cases hout : aop P s.h s.ev oj.op with
      | none => rw [hout] at h2; exact h2.elim
      | some out =>
        rw [hout] at h2
        simp only at h2 ⊢
        have comm : ∀ (h' : AHeap) (ds : List (FuncId × List AV)) (y : AV), ({ s.put oi.dst x with h := h', d := ds } : AState).put oj.dst y = (({ s with h := h', d := ds } : AState).put oj.dst y).put oi.dst x := by
          intro h' ds y
          have e : ({ s.put oi.dst x with h := h', d := ds } : AState) = ({ s with h := h', d := ds } : AState).put oi.dst x := by cases oi.dst <;> rfl
          rw [e, put_comm a2]
        have e0 : ∀ h' : AHeap, ({ s.put oi.dst x with h := h' } : AState) = { s.put oi.dst x with h := h', d := s.d } := fun h' => by cases oi.dst <;> rfl
        have e1 : ∀ h' : AHeap, ({ s with h := h' } : AState) = { s with h := h', d := s.d } := fun h' => rfl
        cases out with
        | val v h' =>
          refine ⟨h2.1, after _ ?_ (LYields.same (s := s) (h := h') (ds := s.d) a3 hy)⟩
          have h3 := h2.2
          rw [e0, comm] at h3
          exact h3
        | skip h' =>
          refine ⟨h2.1, after _ ?_ (LYields.same (s := s) (h := h') (ds := s.d) a3 hy)⟩
          have h3 := h2.2
          rw [e0, comm] at h3
          exact h3
        | call f args h' =>
          refine ⟨h2.1, h2.2.mono fun r h'' hr' => ?_⟩
          cases r with
          | ret v =>
            simp only at hr' ⊢
            rw [e0, comm] at hr'
            exact after _ hr' (LYields.same (s := s) (h := h'') (ds := s.d) a3 hy)
          | panic v =>
            simp only at hr' ⊢
            exact hQ v { s.put oi.dst x with h := h'' } { s with h := h'' } rfl hd (fun k hk => put_t (hk oi (Array.mem_of_getElem? hi))) hr'
        | dfr f args h' =>
          refine ⟨h2.1, after _ ?_ (LYields.same (s := s) (h := h') (ds := (f, args) :: s.d) a3 hy)⟩
          have h3 := h2.2
          rw [hd, comm] at h3
          exact h3
        | pan v h' => exact hQ v { s.put oi.dst x with h := h' } { s with h := h' } rfl hd (fun k hk => put_t (hk oi (Array.mem_of_getElem? hi))) h2
        | recov => exact h2.elim
        | pick opts =>
          refine ⟨h2.1, fun q hq => after _ ?_ (LYields.same (s := s) (h := q.2) (ds := s.d) a3 hy)⟩
          have h3 := h2.2 q hq
          rw [e0, comm] at h3
          exact h3


/-! ### One order, reckoned -/
def opAt : List Oper → Nat → Option Oper
  | [], _ => none
  | o :: _, 0 => some o
  | _ :: os, i + 1 => opAt os i
theorem opAt_eq : ∀ (l : List Oper) (i : Nat), opAt l i = l[i]?
  | [], i => by simp [opAt]
  | o :: os, 0 => rfl
  | o :: os, i + 1 => by simp [opAt, opAt_eq os i]
def noHeap : AHeap := ⟨0, fun _ => none⟩
/-- Behind an operation that is not light: what is held is held still. -/
def holds (hm : Nat → AHeap) : List Nat → AState → AState → Prop
  | [], _, _ => True
  | q :: qs, s, s' => (Subg (hm q).get s.h.get → Subg (hm q).get s'.h.get) ∧ holds hm qs s s'
theorem holds.at {hm : Nat → AHeap} {s s' : AState} : ∀ {qs : List Nat}, holds hm qs s s' → ∀ q, qs.contains q = true → Subg (hm q).get s.h.get → Subg (hm q).get s'.h.get
  | [], _, q, h => by simp at h
  | p :: qs, hh, q, h => by
    simp only [List.contains_cons, Bool.or_eq_true, beq_iff_eq] at h
    rcases h with rfl | h
    · exact hh.1
    · exact hh.2.at q h
/-- Which loads' places an operation must leave as they are. -/
abbrev Need := List (Nat × List Nat)
def needAt : Need → Nat → List Nat
  | [], _ => []
  | (i, qs) :: rest, j => if Nat.beq i j then qs else needAt rest j
def AHold (hm : Nat → AHeap) (qs : List Nat) (s : AState) (next : AState → Prop) (s' : AState) : Prop := holds hm qs s s' ∧ next s'
def ALgt (n : Nat) (dst : Option Tmp) (next : AState → Prop) (s : AState) (x : AV) : Prop := dstOK n dst = true ∧ next (s.put dst x)
def ADgo (P : Program) (n : Nat) (Q : AExit → AState → Prop) (hm : Nat → AHeap) (qs : List Nat) (i k : Nat) (next : AState → Prop) (dst : Option Tmp) (op : Op) (s : AState) : Bool → Prop
  | false => dstOK n dst = true ∧ match k with
    | 0 => next (s.put dst .unit)
    | 1 => next (s.put dst .unit)
    | _ => AHold hm qs s next (s.put dst .unit)
  | true => match k with
    | 0 => ALight P noHeap s.ev op (ALgt n dst next s)
    | 1 => Subg (hm i).get s.h.get ∧ osome (aopL P (hm i) s.ev op) (ALgt n dst next s)
    | _ => osome (aop P s.h s.ev op) (AStep P n dst s (AHold hm qs s next) Q)
def ADr1 (P : Program) (n : Nat) (ops : List Oper) (Q : AExit → AState → Prop) (hm : Nat → AHeap) (qs : List Nat) (i k : Nat) (next : AState → Prop) (s : AState) (o : Oper) : Prop :=
  AGuard ops.toArray o s (ADgo P n Q hm qs i k next o.dst o.op s)
/-- The order's operations, one behind the other: 0 what is light, 1 what is light and looks at what is held, 2 any other. -/
def ADr (P : Program) (n : Nat) (ops : List Oper) (Q : AExit → AState → Prop) (hm : Nat → AHeap) (E : Need) : List (Nat × Nat) → AState → Prop
  | [], s => Q .normal s
  | (i, k) :: ord, s => osome (opAt ops i) (ADr1 P n ops Q hm (needAt E i) i k (ADr P n ops Q hm E ord) s)

def okGo (ops : Array Oper) : Array Bool → List (Nat × Nat) → Bool
  | listed, [] => (Region.ready .any ops listed).isEmpty
  | listed, (i, k) :: ord => (if k ≤ 1 then Region.free .any ops listed i && (Region.ready .any ops listed).contains i else Region.ready .any ops listed == [i]) && okGo ops (listed.setIfInBounds i true) ord
def okOrd (ops : Array Oper) (ord : List (Nat × Nat)) (E : Need) : Bool :=
  Region.noSelect ops && ord.length == ops.size && okGo ops (Array.replicate ops.size false) ord &&
    ord.all fun p => p.2 != 1 || (List.range ops.size).all fun j => j == p.1 || reach ops p.1 ops.size j || (needAt E j).contains p.1

theorem ADr.sound {l : List Oper} {hm : Nat → AHeap} {E : Need} (hs : Region.noSelect l.toArray = true) (hQ : QP l.toArray Q) : ∀ (ord : List (Nat × Nat)) (listed : Array Bool) (s : AState), okGo l.toArray listed ord = true → Down l.toArray listed →
    (∀ p ∈ ord, p.2 = 1 → ∀ j, j ≠ p.1 → j < l.toArray.size → reach l.toArray p.1 l.toArray.size j = false → (needAt E j).contains p.1 = true) →
    ADr P n l Q hm E ord s → AAny P n l.toArray Q (fun q => (hm q).get) (fun q i => (needAt E i).contains q) ord.length listed s
  | [], listed, s, hok, _, _, h => ⟨by simpa [okGo] using hok, h⟩
  | (i, k) :: ord, listed, s, hok, hd, hE, h => by
    simp only [okGo, Bool.and_eq_true] at hok
    obtain ⟨hk, hrest⟩ := hok
    simp only [ADr, opAt_eq] at h
    unfold osome at h
    split at h
    case h_2 => exact h.elim
    rename_i o ho
    have hi : l.toArray[i]? = some o := by simpa using ho
    have hE' : ∀ p ∈ ord, p.2 = 1 → ∀ j, j ≠ p.1 → j < l.toArray.size → reach l.toArray p.1 l.toArray.size j = false → (needAt E j).contains p.1 = true := fun p hp => hE p (by simp [hp])
    obtain ⟨g, hg, h2⟩ := AGuard_iff.1 h
    by_cases hk1 : k ≤ 1
    · rw [if_pos hk1, Bool.and_eq_true] at hk
      have hr : i ∈ Region.ready .any l.toArray listed := by simpa using hk.2
      obtain ⟨_, o', ho', hall⟩ := mem_ready.1 hr
      have hoo : o' = o := by rw [hi] at ho'; cases ho'; rfl
      subst hoo
      have hd' := hd.set hi hall
      -- the value, and the heap that it needs
      have key : ∃ (x : AV) (hl : AHeap), LYields P l.toArray hl o' s x ∧ Subg hl.get s.h.get ∧ dstOK n o'.dst = true ∧ ADr P n l Q hm E ord (s.put o'.dst x) ∧
          ((∀ q, hl.get q = none) ∨ (hl.get = (hm i).get ∧ k = 1)) := by
        cases g with
        | false =>
          have h3 : dstOK n o'.dst = true ∧ ADr P n l Q hm E ord (s.put o'.dst .unit) := by
            rcases Nat.le_one_iff_eq_zero_or_eq_one.1 hk1 with rfl | rfl
            · exact h2
            · exact h2
          exact ⟨.unit, noHeap, ⟨false, hg, fun e => (by cases e), fun _ => rfl⟩, fun q y e => (by cases e), h3.1, h3.2, .inl fun q => rfl⟩
        | true =>
          rcases Nat.le_one_iff_eq_zero_or_eq_one.1 hk1 with rfl | rfl
          · simp only [ADgo, ALight] at h2
            split at h2
            · rename_i q hq
              obtain ⟨x, hp, h2⟩ := h2
              exact ⟨x, noHeap, ⟨true, hg, fun _ => .inr ⟨q, hq, hp⟩, fun e => (by cases e)⟩, fun q y e => (by cases e), h2.1, h2.2, .inl fun q => rfl⟩
            · unfold osome at h2
              split at h2
              case h_2 => exact h2.elim
              rename_i x hx
              exact ⟨x, noHeap, ⟨true, hg, fun _ => .inl hx, fun e => (by cases e)⟩, fun q y e => (by cases e), h2.1, h2.2, .inl fun q => rfl⟩
          · simp only [ADgo] at h2
            obtain ⟨hsub, h2⟩ := h2
            unfold osome at h2
            split at h2
            case h_2 => exact h2.elim
            rename_i x hx
            exact ⟨x, hm i, ⟨true, hg, fun _ => .inl hx, fun e => (by cases e)⟩, hsub, h2.1, h2.2, .inr ⟨rfl, rfl⟩⟩
      obtain ⟨x, hl, hy, hsub, hdst, hnext, hor⟩ := key
      refine AAny_first hi hdst hQ l.toArray.size ?_ ord.length listed s hd (Region.free_spec hi hk.1) hr hy hsub (ADr.sound hs hQ ord _ _ hrest hd' hE' hnext)
      rcases hor with h0 | ⟨h0, h1⟩
      · exact .inl h0
      · refine .inr ⟨h0, fun j hj hjl hre => ?_⟩
        exact hE (i, k) (by simp) h1 j hj hjl hre
    · rw [if_neg hk1] at hk
      have hrd : Region.ready .any l.toArray listed = [i] := by simpa using hk
      have hr : i ∈ Region.ready .any l.toArray listed := by rw [hrd]; simp
      obtain ⟨_, o', ho', hall⟩ := mem_ready.1 hr
      have hoo : o' = o := by rw [hi] at ho'; cases ho'; rfl
      subst hoo
      have hd' := hd.set hi hall
      obtain ⟨k, rfl⟩ : ∃ m, k = m + 2 := ⟨k - 2, by omega⟩
      refine ⟨fun h0 => (by rw [hrd] at h0; cases h0), fun j hj => ?_⟩
      rw [hrd] at hj
      simp only [List.mem_singleton] at hj
      subst hj
      unfold AOp1
      simp only [hi]
      refine AGuard_iff.2 ⟨g, hg, ?_⟩
      have conv : ∀ s', AHold hm (needAt E j) s (ADr P n l Q hm E ord) s' → ((∀ q, (needAt E j).contains q = true → Subg (hm q).get s.h.get → Subg (hm q).get s'.h.get) ∧ AAny P n l.toArray Q (fun q => (hm q).get) (fun q i => (needAt E i).contains q) ord.length (listed.setIfInBounds j true) s') :=
        fun s' h3 => ⟨fun q e => h3.1.at q e, ADr.sound hs hQ ord _ _ hrest hd' hE' h3.2⟩
      cases g with
      | false => exact ⟨h2.1, conv _ h2.2⟩
      | true =>
        simp only [ADgo] at h2
        unfold osome at h2 ⊢
        cases hout : aop P s.h s.ev o'.op with
        | none => rw [hout] at h2; exact h2.elim
        | some out =>
          rw [hout] at h2
          simp only at h2 ⊢
          cases out with
          | val v h' => exact ⟨h2.1, conv _ h2.2⟩
          | skip h' => exact ⟨h2.1, conv _ h2.2⟩
          | call f args h' =>
            refine ⟨h2.1, h2.2.mono fun r h'' hr' => ?_⟩
            cases r with
            | ret v => exact conv _ hr'
            | panic v => exact hr'
          | dfr f args h' => exact ⟨h2.1, conv _ h2.2⟩
          | pan v h' => exact h2
          | recov => exact h2.elim
          | pick opts => exact ⟨h2.1, fun q hq => conv _ (h2.2 q hq)⟩

theorem ADraw.of {id : Nat} {l : List Oper} {s : AState} (hm : Nat → AHeap) (E : Need) (ord : List (Nat × Nat)) (hmix : P.follows .mixedOrders = true) (hok : okOrd l.toArray ord E = true) (hQ : QP l.toArray Q) (h : ADr P n l Q hm E ord s) : ADraw P n id l.toArray Q s := by
  intro K a w R
  refine wp_region_any hmix ?_
  simp only [okOrd, Bool.and_eq_true, List.all_eq_true, Bool.or_eq_true, bne_iff_ne, beq_iff_eq, List.mem_range] at hok
  obtain ⟨⟨⟨hs, hlen⟩, hgo⟩, hE⟩ := hok
  have R' : SRel K n s a w.drew := ⟨R.heap.of_heap rfl, R.size, R.tmps, R.defers⟩
  have hg : Glob w w.drew := ⟨rfl, rfl, rfl, Nat.le_refl _, fun k hk => rfl⟩
  have := ADr.sound (P := P) (n := n) (hm := hm) (E := E) hs hQ ord _ s hgo (Down.none _) (fun p hp h1 j hj hjl hre => by
    rcases hE p hp with h | h
    · exact absurd h1 h
    · rcases h j hjl with (h | h) | h
      · exact absurd h hj
      · rw [hre] at h; cases h
      · exact h) h
  rw [hlen] at this
  exact AAny.sound _ _ _ K w K a _ (KW.le_refl K) hg R' this

/-! ### A tree of orders -/
/-- What is light comes first ('one'); of the others each that may come next ('alt'). -/
inductive OT where
  | done
  | one (i k : Nat) (rest : OT)
  | alt (i : Nat) (sub more : OT)
  deriving Inhabited
def OT.ones : OT → List Nat
  | .done => []
  | .one i k rest => if k = 1 then i :: rest.ones else rest.ones
  | .alt _ sub more => sub.ones ++ more.ones
def ATr (P : Program) (n : Nat) (ops : List Oper) (Q : AExit → AState → Prop) (hm : Nat → AHeap) (E : Need) : OT → Bool → AState → Prop
  | .done, true, s => Q .normal s
  | .done, false, _ => True
  | .one i k rest, _, s => osome (opAt ops i) (ADr1 P n ops Q hm (needAt E i) i k (ATr P n ops Q hm E rest true) s)
  | .alt i sub more, _, s => osome (opAt ops i) (ADr1 P n ops Q hm (needAt E i) i 2 (ATr P n ops Q hm E sub true) s) ∧ ATr P n ops Q hm E more false s
def okT (ops : Array Oper) : OT → Option (List Nat) → Nat → Array Bool → Bool
  | .done, none, _, listed => (Region.ready .any ops listed).isEmpty
  | .done, some js, _, _ => js.isEmpty
  | .one i k rest, none, f + 1, listed => Nat.ble k 1 && Region.free .any ops listed i && (Region.ready .any ops listed).contains i && okT ops rest none f (listed.setIfInBounds i true)
  | .alt i sub more, none, f + 1, listed => match Region.ready .any ops listed with
    | [] => false
    | j :: js => Nat.beq i j && okT ops sub none f (listed.setIfInBounds i true) && okT ops more (some js) (f + 1) listed
  | .alt i sub more, some (j :: js), f + 1, listed => Nat.beq i j && okT ops sub none f (listed.setIfInBounds i true) && okT ops more (some js) (f + 1) listed
  | _, _, _, _ => false
def okTr (ops : Array Oper) (T : OT) (E : Need) : Bool :=
  Region.noSelect ops && okT ops T none ops.size (Array.replicate ops.size false) && T.ones.all fun i => (List.range ops.size).all fun j => j == i || reach ops i ops.size j || (needAt E j).contains i

theorem ATr.step {l : List Oper} {hm : Nat → AHeap} {E : Need} {i : Nat} {sub : AState → Prop} {f : Nat} {listed : Array Bool} {s : AState} (h : osome (opAt l i) (ADr1 P n l Q hm (needAt E i) i 2 sub s))
    (hsub : ∀ s', sub s' → AAny P n l.toArray Q (fun q => (hm q).get) (fun q i => (needAt E i).contains q) f (listed.setIfInBounds i true) s') :
    AOp1 P n l.toArray Q i (fun s' => (∀ q, (needAt E i).contains q = true → Subg (hm q).get s.h.get → Subg (hm q).get s'.h.get) ∧ AAny P n l.toArray Q (fun q => (hm q).get) (fun q i => (needAt E i).contains q) f (listed.setIfInBounds i true) s') s := by
  rw [opAt_eq] at h
  unfold osome at h
  split at h
  case h_2 => exact h.elim
  rename_i o ho
  have hi : l.toArray[i]? = some o := by simpa using ho
  obtain ⟨g, hg, h2⟩ := AGuard_iff.1 h
  unfold AOp1
  simp only [hi]
  refine AGuard_iff.2 ⟨g, hg, ?_⟩
  have conv : ∀ s', AHold hm (needAt E i) s sub s' → ((∀ q, (needAt E i).contains q = true → Subg (hm q).get s.h.get → Subg (hm q).get s'.h.get) ∧ AAny P n l.toArray Q (fun q => (hm q).get) (fun q i => (needAt E i).contains q) f (listed.setIfInBounds i true) s') :=
    fun s' h3 => ⟨fun q e => h3.1.at q e, hsub s' h3.2⟩
  cases g with
  | false => exact ⟨h2.1, conv _ h2.2⟩
  | true =>
    simp only [ADgo] at h2
    unfold osome at h2 ⊢
    cases hout : aop P s.h s.ev o.op with
    | none => rw [hout] at h2; exact h2.elim
    | some out =>
      rw [hout] at h2
      simp only at h2 ⊢
      cases out with
      | val v h' => exact ⟨h2.1, conv _ h2.2⟩
      | skip h' => exact ⟨h2.1, conv _ h2.2⟩
      | call f args h' =>
        refine ⟨h2.1, h2.2.mono fun r h'' hr' => ?_⟩
        cases r with
        | ret v => exact conv _ hr'
        | panic v => exact hr'
      | dfr f args h' => exact ⟨h2.1, conv _ h2.2⟩
      | pan v h' => exact h2
      | recov => exact h2.elim
      | pick opts => exact ⟨h2.1, fun q hq => conv _ (h2.2 q hq)⟩

theorem ATr.sound {l : List Oper} {hm : Nat → AHeap} {E : Need} (hs : Region.noSelect l.toArray = true) (hQ : QP l.toArray Q) : ∀ (T : OT) (js : Option (List Nat)) (f : Nat) (listed : Array Bool) (s : AState), okT l.toArray T js f listed = true → Down l.toArray listed →
    (∀ p ∈ T.ones, ∀ j, j ≠ p → j < l.toArray.size → reach l.toArray p l.toArray.size j = false → (needAt E j).contains p = true) →
    (∀ j ∈ js.getD [], j ∈ Region.ready .any l.toArray listed) →
    ATr P n l Q hm E T js.isNone s → match js with
      | none => AAny P n l.toArray Q (fun q => (hm q).get) (fun q i => (needAt E i).contains q) f listed s
      | some js => ∀ j ∈ js, AOp1 P n l.toArray Q j (fun s' => (∀ q, (needAt E j).contains q = true → Subg (hm q).get s.h.get → Subg (hm q).get s'.h.get) ∧ AAny P n l.toArray Q (fun q => (hm q).get) (fun q i => (needAt E i).contains q) (f - 1) (listed.setIfInBounds j true) s') s := by
  intro T
  induction T with
  | done =>
    intro js f listed s hok hd hE hjs h
    cases js with
    | none =>
      simp only [okT, List.isEmpty_iff] at hok
      cases f with
      | zero => exact ⟨hok, h⟩
      | succ f => exact ⟨fun _ => h, fun i hi => (by rw [hok] at hi; cases hi)⟩
    | some js =>
      simp only [okT, List.isEmpty_iff] at hok
      subst hok
      intro j hj; cases hj
  | one i k rest ih =>
    intro js f listed s hok hd hE hjs h
    cases js with
    | some js => simp only [okT] at hok; cases hok
    | none =>
    cases f with
    | zero => simp only [okT] at hok; cases hok
    | succ f =>
    simp only [okT, Bool.and_eq_true] at hok
    obtain ⟨⟨⟨hk1, hfree⟩, hcon⟩, hrest⟩ := hok
    have hk1 := Nat.le_of_ble_eq_true hk1
    simp only [ATr, opAt_eq] at h
    unfold osome at h
    split at h
    case h_2 => exact h.elim
    rename_i o ho
    have hi : l.toArray[i]? = some o := by simpa using ho
    have hE' : ∀ p ∈ rest.ones, ∀ j, j ≠ p → j < l.toArray.size → reach l.toArray p l.toArray.size j = false → (needAt E j).contains p = true := fun p hp => hE p (by simp only [OT.ones]; split <;> simp [hp])
    obtain ⟨g, hg, h2⟩ := AGuard_iff.1 h
    have hr : i ∈ Region.ready .any l.toArray listed := by simpa using hcon
    obtain ⟨_, o', ho', hall⟩ := mem_ready.1 hr
    have hoo : o' = o := by rw [hi] at ho'; cases ho'; rfl
    subst hoo
    have hd' := hd.set hi hall
    have key : ∃ (x : AV) (hl : AHeap), LYields P l.toArray hl o' s x ∧ Subg hl.get s.h.get ∧ dstOK n o'.dst = true ∧ ATr P n l Q hm E rest true (s.put o'.dst x) ∧
        ((∀ q, hl.get q = none) ∨ (hl.get = (hm i).get ∧ k = 1)) := by
      cases g with
      | false =>
        have h3 : dstOK n o'.dst = true ∧ ATr P n l Q hm E rest true (s.put o'.dst .unit) := by
          rcases Nat.le_one_iff_eq_zero_or_eq_one.1 hk1 with rfl | rfl
          · exact h2
          · exact h2
        exact ⟨.unit, noHeap, ⟨false, hg, fun e => (by cases e), fun _ => rfl⟩, fun q y e => (by cases e), h3.1, h3.2, .inl fun q => rfl⟩
      | true =>
        rcases Nat.le_one_iff_eq_zero_or_eq_one.1 hk1 with rfl | rfl
        · simp only [ADgo, ALight] at h2
          split at h2
          · rename_i q hq
            obtain ⟨x, hp, h2⟩ := h2
            exact ⟨x, noHeap, ⟨true, hg, fun _ => .inr ⟨q, hq, hp⟩, fun e => (by cases e)⟩, fun q y e => (by cases e), h2.1, h2.2, .inl fun q => rfl⟩
          · unfold osome at h2
            split at h2
            case h_2 => exact h2.elim
            rename_i x hx
            exact ⟨x, noHeap, ⟨true, hg, fun _ => .inl hx, fun e => (by cases e)⟩, fun q y e => (by cases e), h2.1, h2.2, .inl fun q => rfl⟩
        · simp only [ADgo] at h2
          obtain ⟨hsub, h2⟩ := h2
          unfold osome at h2
          split at h2
          case h_2 => exact h2.elim
          rename_i x hx
          exact ⟨x, hm i, ⟨true, hg, fun _ => .inl hx, fun e => (by cases e)⟩, hsub, h2.1, h2.2, .inr ⟨rfl, rfl⟩⟩
    obtain ⟨x, hl, hy, hsub, hdst, hnext, hor⟩ := key
    refine AAny_first hi hdst hQ l.toArray.size ?_ f listed s hd (Region.free_spec hi hfree) hr hy hsub (ih none f _ _ hrest hd' hE' (by simp) hnext)
    rcases hor with h0 | ⟨h0, h1⟩
    · exact .inl h0
    · refine .inr ⟨h0, fun j hj hjl hre => ?_⟩
      exact hE i (by simp [OT.ones, h1]) j hj hjl hre
  | alt i sub more ihs ihm =>
    intro js f listed s hok hd hE hjs h
    have hEs : ∀ p ∈ sub.ones, ∀ j, j ≠ p → j < l.toArray.size → reach l.toArray p l.toArray.size j = false → (needAt E j).contains p = true := fun p hp => hE p (by simp [OT.ones, hp])
    have hEm : ∀ p ∈ more.ones, ∀ j, j ≠ p → j < l.toArray.size → reach l.toArray p l.toArray.size j = false → (needAt E j).contains p = true := fun p hp => hE p (by simp [OT.ones, hp])
    cases f with
    | zero => cases js with
      | none => simp only [okT] at hok; cases hok
      | some js => cases js <;> (simp only [okT] at hok; cases hok)
    | succ f =>
    have one : ∀ j js', (Nat.beq i j && okT l.toArray sub none f (listed.setIfInBounds i true) && okT l.toArray more (some js') (f + 1) listed) = true → j ∈ Region.ready .any l.toArray listed → (∀ k ∈ js', k ∈ Region.ready .any l.toArray listed) →
        ∀ k ∈ j :: js', AOp1 P n l.toArray Q k (fun s' => (∀ q, (needAt E k).contains q = true → Subg (hm q).get s.h.get → Subg (hm q).get s'.h.get) ∧ AAny P n l.toArray Q (fun q => (hm q).get) (fun q i => (needAt E i).contains q) f (listed.setIfInBounds k true) s') s := by
      intro j js' hh hj hjs' k hk
      simp only [Bool.and_eq_true] at hh
      obtain ⟨⟨hij, hso⟩, hmo⟩ := hh
      have hij := Nat.eq_of_beq_eq_true hij
      subst hij
      rcases List.mem_cons.1 hk with rfl | hk
      · obtain ⟨_, o', ho', hall⟩ := mem_ready.1 hj
        exact ATr.step h.1 fun s' h' => ihs none f _ s' hso (hd.set ho' hall) hEs (by simp) h'
      · exact ihm (some js') (f + 1) listed s hmo hd hEm (by simpa using hjs') h.2 k hk
    cases js with
    | none =>
      simp only [okT] at hok
      split at hok
      · cases hok
      · rename_i j js' hr
        refine ⟨fun h0 => (by rw [hr] at h0; cases h0), fun k hk => ?_⟩
        rw [hr] at hk
        exact one j js' hok (by rw [hr]; simp) (fun k hk => by rw [hr]; simp [hk]) k hk
    | some js =>
      cases js with
      | nil => simp only [okT] at hok; cases hok
      | cons j js' =>
        simp only [okT] at hok
        exact one j js' hok (hjs j (by simp)) fun k hk => hjs k (by simp [hk])

/-- Every outcome, of whichever order. -/
theorem ATr.of {id : Nat} {l : List Oper} {s : AState} (hm : Nat → AHeap) (E : Need) (T : OT) (hmix : P.follows .mixedOrders = true) (hok : okTr l.toArray T E = true) (hQ : QP l.toArray Q) (h : ATr P n l Q hm E T true s) : AWP P n (.region id l.toArray true) Q s := by
  intro K a w R
  refine wp_region_any hmix ?_
  simp only [okTr, Bool.and_eq_true, List.all_eq_true, Bool.or_eq_true, beq_iff_eq, List.mem_range] at hok
  obtain ⟨⟨hs, hgo⟩, hE⟩ := hok
  have R' : SRel K n s a w.drew := ⟨R.heap.of_heap rfl, R.size, R.tmps, R.defers⟩
  have hg : Glob w w.drew := ⟨rfl, rfl, rfl, Nat.le_refl _, fun k hk => rfl⟩
  have := ATr.sound (P := P) (n := n) (hm := hm) (E := E) hs hQ T none _ _ s hgo (Down.none _) (fun p hp j hj hjl hre => by
    rcases hE p hp j hjl with (h | h) | h
    · exact absurd h hj
    · rw [hre] at h; cases h
    · exact h) (by simp) h
  exact AAny.sound _ _ _ K w K a _ (KW.le_refl K) hg R' this

end
end Go.Proofs.YtolacfnciaimhaaGreatDoor
