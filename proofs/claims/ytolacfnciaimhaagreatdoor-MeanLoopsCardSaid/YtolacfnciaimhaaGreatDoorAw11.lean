/- States of a function's run, its calls, and what holds behind them; each piece of code by its rule. -/
import Derived.Test.YtolacfnciaimhaaGreatDoorAw10
set_option linter.unusedVariables false
set_option linter.unusedSimpArgs false
namespace Go.Proofs.YtolacfnciaimhaaGreatDoor
open Go Go.RowKit

structure AState where
  t : Nat → AV
  h : AHeap
  d : List (FuncId × List AV)

inductive AExit where
  | normal
  | exit (id : Nat)
  | goto (l : Nat)
  | ret
  | panic (v : AV)

inductive ARes where
  | ret (v : AV)
  | panic (v : AV)

def AState.ev (s : AState) : Operand → AV
  | .tmp i => s.t i
  | .const v => ofConst v
  | .global _ => .undef
  | .func f => .fn f [] []

def DRel (K : KW) (x : FuncId × List AV) (d : Deferred) : Prop := ∃ cap, d.target = .fn (.func x.1) cap ∧ VRs K x.2 (d.args ++ cap)
def DRels (K : KW) : List (FuncId × List AV) → List Deferred → Prop
  | [], [] => True
  | x :: xs, d :: ds => DRel K x d ∧ DRels K xs ds
  | _, _ => False
theorem DRels.mono {K K' : KW} (hk : K.le K') : ∀ {xs ds}, DRels K xs ds → DRels K' xs ds
  | [], [], _ => trivial
  | x :: xs, d :: ds, h => ⟨let ⟨cap, h1, h2⟩ := h.1; ⟨cap, h1, h2.mono hk⟩, h.2.mono hk⟩
  | [], _ :: _, h => h.elim
  | _ :: _, [], h => h.elim

structure SRel (K : KW) (n : Nat) (s : AState) (a : Act) (w : World) : Prop where
  heap : HRel K s.h w
  size : a.tmps.size = n
  tmps : ∀ i, VR K (s.t i) (a.tmps.getD i undef)
  defers : DRels K s.d a.defers
theorem SRel.ev {K : KW} {n : Nat} {s : AState} {a : Act} {w : World} (R : SRel K n s a w) (x : Operand) : VR K (s.ev x) (a.eval x) := by
  cases x with
  | tmp i => exact R.tmps i
  | const v => exact .ofConst K v
  | global g => exact .undef _
  | func f => exact .fn f [] [] #[] #[] rfl rfl (fun i x e => by simp at e) (fun i x e => by simp at e)

def ERel (K : KW) : AExit → Exit → Prop
  | .normal, .normal => True
  | .exit i, .exit j => i = j
  | .goto i, .goto j => i = j
  | .ret, .ret => True
  | .panic x, .panic chain => ∃ v, chain = [{ v, recovered := false }] ∧ VR K x v
  | _, _ => False
def RRel (K : KW) : ARes → Ending → Prop
  | .ret x, .returned v => VR K x v
  | .panic x, .panicked chain => ∃ v, chain = [{ v, recovered := false }] ∧ VR K x v
  | _, _ => False

/-- A post on abstract states, of the model's. -/
def Lift (K : KW) (n : Nat) (w : World) (Q : AExit → AState → Prop) : Exit → Act → World → Prop := fun e a' w' =>
  ∃ K' s' e', K.le K' ∧ SRel K' n s' a' w' ∧ Glob w w' ∧ ERel K' e' e ∧ Q e' s'
theorem Lift.mono {K K1 : KW} {n : Nat} {w w1 : World} {Q : AExit → AState → Prop} (hk : K.le K1) (hw : Glob w w1) {e : Exit} {a : Act} {w' : World} (h : Lift K1 n w1 Q e a w') : Lift K n w Q e a w' := by
  obtain ⟨K', s', e', h1, h2, h3, h4, h5⟩ := h
  exact ⟨K', s', e', KW.le_trans hk h1, h2, hw.trans h3, h4, h5⟩
theorem Lift.imp {K : KW} {n : Nat} {w : World} {Q Q' : AExit → AState → Prop} (hq : ∀ e s, Q e s → Q' e s) {e : Exit} {a : Act} {w' : World} (h : Lift K n w Q e a w') : Lift K n w Q' e a w' := by
  obtain ⟨K', s', e', h1, h2, h3, h4, h5⟩ := h
  exact ⟨K', s', e', h1, h2, h3, h4, hq _ _ h5⟩

/-- What holds behind a piece of code. -/
def AWP (P : Program) (n : Nat) (c : Code) (Q : AExit → AState → Prop) (s : AState) : Prop := ∀ K a w, SRel K n s a w → c.wp P (Lift K n w Q) a w
/-- A function's contract. -/
def ACall (P : Program) (f : FuncId) (args : List AV) (h : AHeap) (R : ARes → AHeap → Prop) : Prop :=
  ∀ K w vs, HRel K h w → VRs K args vs → Calls P f vs w fun e w' => ∃ K' h' r, K.le K' ∧ HRel K' h' w' ∧ Glob w w' ∧ RRel K' r e ∧ R r h'
theorem ACall.mono {P : Program} {f : FuncId} {args : List AV} {h : AHeap} {R R' : ARes → AHeap → Prop} (c : ACall P f args h R) (hr : ∀ r h', R r h' → R' r h') : ACall P f args h R' :=
  fun K w vs H hv => (c K w vs H hv).mono fun e w' ⟨K', h', r, h1, h2, h3, h4, h5⟩ => ⟨K', h', r, h1, h2, h3, h4, hr _ _ h5⟩

/-! ### What may be forgotten -/
def le0 : AV → AV → Prop
  | .undef, _ => True
  | .slice _ [], .nils => True
  | .slice _ [], .slice _ [] => True
  | x, y => x = y
def F2 (R : AV → AV → Prop) : List AV → List AV → Prop
  | [], [] => True
  | x :: xs, y :: ys => R x y ∧ F2 R xs ys
  | _, _ => False
def le1 : AV → AV → Prop
  | .agg xs, .agg ys => F2 le0 xs ys
  | x, y => le0 x y
def le2 : AV → AV → Prop
  | .tuple xs, .tuple ys => F2 le1 xs ys
  | x, y => le1 x y
theorem le0.vr {K : KW} {x y : AV} {v : Value} (h : le0 x y) (hv : VR K y v) : VR K x v := by
  unfold le0 at h
  split at h
  · exact .undef v
  · cases hv; exact .slice0 _ _ _
  · obtain ⟨a, cap, rfl⟩ := slice_len hv; exact .slice0 _ _ _
  · subst h; exact hv
theorem le0.refl (x : AV) : le0 x x := by
  cases x with
  | slice sz rows => cases rows <;> simp [le0]
  | _ => simp [le0]
theorem F2.len {R : AV → AV → Prop} : ∀ {xs ys : List AV}, F2 R xs ys → xs.length = ys.length
  | [], [], _ => rfl
  | x :: xs, y :: ys, h => by simp [h.2.len]
  | [], _ :: _, h => h.elim
  | _ :: _, [], h => h.elim
theorem F2.get {R : AV → AV → Prop} : ∀ {xs ys : List AV}, F2 R xs ys → ∀ {i : Nat} {x y : AV}, xs[i]? = some x → ys[i]? = some y → R x y
  | x :: xs, y :: ys, h, 0, a, b, ea, eb => by simp at ea eb; subst ea; subst eb; exact h.1
  | x :: xs, y :: ys, h, i + 1, a, b, ea, eb => h.2.get (i := i) (by simpa using ea) (by simpa using eb)
  | [], _, _, i, a, b, ea, _ => by simp at ea
  | _ :: _, [], h, _, _, _, _, _ => h.elim
theorem F2.refl {R : AV → AV → Prop} (hr : ∀ x, R x x) : ∀ xs, F2 R xs xs
  | [] => trivial
  | x :: xs => ⟨hr x, F2.refl hr xs⟩
theorem le1.vr {K : KW} {x y : AV} {v : Value} (h : le1 x y) (hv : VR K y v) : VR K x v := by
  unfold le1 at h
  split at h
  · rename_i xs ys
    cases hv with
    | agg _ cs hn h1 hv' =>
      have hl := h.len
      refine .agg _ cs (by omega) (fun i hi => h1 i (by omega)) fun i x e => ?_
      have hi : i < ys.length := by rw [← hl]; exact (List.getElem?_eq_some_iff.1 e).1
      exact (h.get e (List.getElem?_eq_getElem hi)).vr (hv' i _ (List.getElem?_eq_getElem hi))
  · exact h.vr hv
theorem le1.refl (x : AV) : le1 x x := by
  cases x with
  | agg xs => exact F2.refl le0.refl xs
  | _ => simp only [le1, le0.refl]
theorem le2.vr {K : KW} {x y : AV} {v : Value} (h : le2 x y) (hv : VR K y v) : VR K x v := by
  unfold le2 at h
  split at h
  · rename_i xs ys
    cases hv with
    | tuple _ cs hn hv' =>
      have hl := h.len
      refine .tuple _ cs (by omega) fun i x e => ?_
      have hi : i < ys.length := by rw [← hl]; exact (List.getElem?_eq_some_iff.1 e).1
      exact (h.get e (List.getElem?_eq_getElem hi)).vr (hv' i _ (List.getElem?_eq_getElem hi))
  · exact h.vr hv
theorem le2.refl (x : AV) : le2 x x := by
  cases x with
  | tuple xs => exact F2.refl le1.refl xs
  | _ => simp only [le2, le1.refl]

def ole : AObj → AObj → Prop
  | .cells xs, .cells ys => F2 le0 xs ys
  | .arr e sz xs, .arr e' sz' ys => e = e' ∧ sz = sz' ∧ xs.length = ys.length ∧ ∀ (i : Nat) (x y : List AV), xs[i]? = some x → ys[i]? = some y → F2 le0 x y
  | x, y => x = y
theorem F2.cells {K : KW} {c : Array Value} {o : Nat} {xs ys : List AV} (h : F2 le0 xs ys) (hc : CellsAt K c o ys) : CellsAt K c o xs := fun j x e => by
  have hj : j < ys.length := by rw [← h.len]; exact (List.getElem?_eq_some_iff.1 e).1
  obtain ⟨y, hy, h1, h2⟩ := hc j _ (List.getElem?_eq_getElem hj)
  exact ⟨y, hy, h1, (h.get e (List.getElem?_eq_getElem hj)).vr h2⟩
theorem F2.append {R : AV → AV → Prop} : ∀ {xs ys xs' ys' : List AV}, F2 R xs ys → F2 R xs' ys' → F2 R (xs ++ xs') (ys ++ ys')
  | [], [], _, _, _, h => h
  | x :: xs, y :: ys, _, _, h, h' => ⟨h.1, h.2.append h'⟩
  | [], _ :: _, _, _, h, _ => h.elim
  | _ :: _, [], _, _, h, _ => h.elim
theorem F2.flat : ∀ {xs ys : List (List AV)}, xs.length = ys.length → (∀ (i : Nat) x y, xs[i]? = some x → ys[i]? = some y → F2 le0 x y) → F2 le0 xs.flatten ys.flatten
  | [], [], _, _ => trivial
  | x :: xs, y :: ys, hl, h => by
    simp only [List.flatten_cons]
    exact (h 0 x y rfl rfl).append (F2.flat (by simpa using hl) fun i a b ea eb => h (i + 1) a b (by simpa using ea) (by simpa using eb))
  | [], _ :: _, hl, _ => by simp at hl
  | _ :: _, [], hl, _ => by simp at hl
theorem ole.rel {K : KW} {x y : AObj} {l : Nat} {w : World} (h : ole x y) (hy : ORel K y l w) : ORel K x l w := by
  unfold ole at h
  split at h
  · obtain ⟨b, o, c, e, h1, h2, h3, h4⟩ := hy
    exact ⟨b, o, c, e, h1, h2, by rw [h.len]; exact h3, h.cells h4⟩
  · rename_i e sz xs e' sz' ys
    obtain ⟨rfl, rfl, hl, hf⟩ := h
    obtain ⟨hs, ho⟩ := hy
    refine ⟨fun r hr => ?_, ?_⟩
    · obtain ⟨i, hi⟩ := List.getElem?_of_mem hr
      have hil : i < ys.length := by rw [← hl]; exact (List.getElem?_eq_some_iff.1 hi).1
      rw [(hf i r _ hi (List.getElem?_eq_getElem hil)).len]
      exact hs _ (List.getElem_mem _)
    · rcases ho with ⟨h1, rfl⟩ | ⟨b, cap, c, e2, h1, h2, he, h3, h4, h5, h6⟩
      · exact .inl ⟨h1, List.eq_nil_of_length_eq_zero (by simpa using hl)⟩
      · exact .inr ⟨b, cap, c, e2, h1, h2, he, h3, by omega, h5, (F2.flat hl hf).cells h6⟩
  · subst h; exact hy
theorem ole.refl (x : AObj) : ole x x := by
  cases x with
  | cells xs => exact F2.refl le0.refl xs
  | arr e sz xs => exact ⟨rfl, rfl, rfl, fun i x y ex ey => by rw [ex] at ey; cases ey; exact F2.refl le0.refl _⟩
  | siter s p => rfl
  | frz sz rows => rfl
  | map es => rfl
  | miter m seen => rfl
theorem ole.live {x y : AObj} (h : ole x y) (l : x.live = true) : y.live = true := by
  cases x <;> cases y <;> first | rfl | (cases l; done) | (cases h; done) | exact h.elim

/-- Less is known of a heap. -/
def AHeap.le (h h' : AHeap) : Prop := h.next = h'.next ∧ ∀ l x, h.get l = some x → ∃ y, h'.get l = some y ∧ ole x y
theorem AHeap.le_refl (h : AHeap) : h.le h := ⟨rfl, fun l x e => ⟨x, e, ole.refl x⟩⟩
theorem HRel.weaken {K : KW} {h h' : AHeap} {w : World} (H : HRel K h' w) (s : h.le h') : HRel K h w where
  fix := H.fix
  obj l x hx := let ⟨y, hy, ho⟩ := s.2 l x hx; ho.rel (H.obj l y hy)
  sep l l' x x' p p' hx hx' lv lv' := let ⟨y, hy, o⟩ := s.2 l x hx; let ⟨y', hy', o'⟩ := s.2 l' x' hx'; H.sep l l' y y' p p' hy hy' (o.live lv) (o'.live lv')
  nofix l x p hx lv := let ⟨y, hy, o⟩ := s.2 l x hx; H.nofix l y p hy (o.live lv)
  fresh l hl := H.fresh l (by rw [← s.1]; exact hl)
  frame b o hb := let ⟨h1, h2, h3⟩ := H.frame b o hb; ⟨h1, h2, fun l x p hx lv => let ⟨y, hy, oo⟩ := s.2 l x hx; h3 l y p hy (oo.live lv)⟩
  iter l m seen es p q h1 h2 := by
    obtain ⟨y, hy, o1⟩ := s.2 l _ h1
    obtain ⟨z, hz, o2⟩ := s.2 m _ h2
    simp only [ole] at o1 o2
    subst o1; subst o2
    exact H.iter l m seen es p q hy hz
structure AState.le (s s' : AState) : Prop where
  t : ∀ i, le2 (s.t i) (s'.t i)
  h : s.h.le s'.h
  d : s.d = s'.d
theorem SRel.weaken {K : KW} {n : Nat} {s s' : AState} {a : Act} {w : World} (R : SRel K n s' a w) (l : s.le s') : SRel K n s a w :=
  ⟨R.heap.weaken l.h, R.size, fun i => (l.t i).vr (R.tmps i), by rw [l.d]; exact R.defers⟩
theorem AWP.weaken {P : Program} {n : Nat} {c : Code} {Q : AExit → AState → Prop} {s s' : AState} (h : AWP P n c Q s) (l : s.le s') : AWP P n c Q s' := fun K a w R => h K a w (R.weaken l)
theorem AWP.mono {P : Program} {n : Nat} {c : Code} {Q Q' : AExit → AState → Prop} {s : AState} (h : AWP P n c Q s) (hq : ∀ e s, Q e s → Q' e s) : AWP P n c Q' s := fun K a w R => wp_mono (h K a w R) fun _ _ _ => Lift.imp hq

/-- The empty frame, and that of a call. -/
def emp : Nat → AV := fun _ => .undef
def entry : Nat → List AV → Nat → AV
  | _, [] => emp
  | k, a :: xs => upd (entry (k + 1) xs) k a
theorem entry_at : ∀ (xs : List AV) (k i : Nat), entry k xs i = if k ≤ i then (xs[i - k]?).getD .undef else .undef
  | [], k, i => by simp [entry, emp]
  | a :: xs, k, i => by
    simp only [entry, upd]
    by_cases h : i = k
    · subst h; simp
    · rw [if_neg h, entry_at xs (k + 1) i]
      by_cases h2 : k ≤ i
      · rw [if_pos (by omega), if_pos h2, show i - k = (i - (k + 1)) + 1 by omega]
        simp
      · rw [if_neg (by omega), if_neg h2]

end Go.Proofs.YtolacfnciaimhaaGreatDoor
