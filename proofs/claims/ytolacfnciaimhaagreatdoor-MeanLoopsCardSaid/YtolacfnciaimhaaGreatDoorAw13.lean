/- The rules as a function on code: what must be shown of a piece of code, reckoned. -/
import Derived.Test.YtolacfnciaimhaaGreatDoorAw12
set_option linter.unusedVariables false
set_option linter.unusedSimpArgs false
namespace Go.Proofs.YtolacfnciaimhaaGreatDoor
open Go Go.RowKit

/-- What must be shown of a region that draws its order (a word of its own: its rules stand elsewhere). -/
def ADraw (P : Program) (n : Nat) (id : Nat) (ops : Array Oper) (Q : AExit → AState → Prop) (s : AState) : Prop := AWP P n (.region id ops true) Q s
def ALoop (P : Program) (n : Nat) (c : Code) (Q : AExit → AState → Prop) (s : AState) : Prop := AWP P n (.loop c) Q s

def awp (P : Program) (n : Nat) : Code → (AExit → AState → Prop) → AState → Prop
  | .skip, Q, s => Q .normal s
  | .region id ops d, Q, s => match d with
    | true => ADraw P n id ops Q s
    | false => AOps P n ops Q ops.toList s
  | .seq a b, Q, s => awp P n a (AExit.then (awp P n b Q) Q) s
  | .cond c x y, Q, s => ∃ b, s.ev c = .bool b ∧ (b = true → awp P n x Q s) ∧ (b = false → awp P n y Q s)
  | .block id c, Q, s => awp P n c (AExit.inBlock id Q) s
  | .loop c, Q, s => ALoop P n c Q s
  | .exit i, Q, s => Q (.exit i) s
  | .scope c, Q, s => awp P n c (AExit.noGoto Q) s
  | .label _, Q, s => Q .normal s
  | .ret, Q, s => Q .ret s
  | _, _, _ => False

theorem awp.sound {P : Program} {n : Nat} : ∀ {c : Code} {Q : AExit → AState → Prop} {s : AState}, awp P n c Q s → AWP P n c Q s := by
  intro c
  induction c with
  | skip => exact fun h => .skip h
  | region id ops d =>
    intro Q s h
    cases d with
    | true => exact h
    | false => exact .region h
  | seq a b iha ihb =>
    intro Q s h
    refine .seq ((iha h).mono fun e s' hq => ?_)
    cases e with
    | normal => exact ihb hq
    | _ => exact hq
  | cond c x y ihx ihy =>
    rintro Q s ⟨b, hb, h1, h2⟩
    exact .cond hb (fun e => ihx (h1 e)) (fun e => ihy (h2 e))
  | block id c ih => exact fun h => .block (ih h)
  | loop c ih => exact fun h => h
  | exit i => exact fun h => .exit h
  | scope c ih => exact fun h => .scope (ih h)
  | label l => exact fun h => .label h
  | ret => exact fun h => .ret h
  | rangeFunc f ps a b => exact fun h => h.elim
  | goto l => exact fun h => h.elim
  | refuse w => exact fun h => h.elim

theorem ACall.of_awp {P : Program} {f : FuncId} {fn : Func} {c : Code} {args : List AV} {h : AHeap} {R : ARes → AHeap → Prop} (hf : P.funcs[f]? = some fn) (hb : fn.body = some c) {m : Nat} (hm : fn.ntmps = m) (ha : args.length ≤ m) {rs : List ResultVar} (hrs : fn.results.toList = rs)
    (hw : awp P m c (AFin P rs R) ⟨entry 0 args, h, []⟩) : ACall P f args h R := .of_body hf hb hm ha hrs hw.sound

/-- A loop, reckoned. -/
theorem ALoop.of {P : Program} {n : Nat} {c : Code} {Q : AExit → AState → Prop} {s s0 : AState} (I : AState → Prop) (μ : AState → Nat) (hs : s0.le s) (h0 : I s0) (round : ∀ s, I s → awp P n c (AExit.then (fun s' => ∃ s'', s''.le s' ∧ I s'' ∧ μ s'' < μ s) Q) s) : ALoop P n c Q s :=
  (AWP.loop I μ h0 fun s h => (round s h).sound).weaken hs


/-! ### For simp: what goes on stands behind names, so that nothing is looked at too early -/
theorem osome_some {α : Type} (x : α) (K : α → Prop) : osome (some x) K = K x := rfl
theorem osome_none {α : Type} (K : α → Prop) : osome (none : Option α) K = False := rfl
theorem osome_ite {α : Type} (c : Prop) [Decidable c] (o : Option α) (K : α → Prop) : osome (if c then o else none) K = (c ∧ osome o K) := by
  by_cases h : c <;> simp [h, osome]
/-- A guard's way, or a branch's. -/
def gb (v : AV) (want : Bool) (K : Bool → Prop) : Prop := match v with
  | .bool b => K (b == want)
  | .tuple _ => K false
  | _ => False
/-- A condition's way. -/
def cb (v : AV) (K : Bool → Prop) : Prop := match v with
  | .bool b => K b
  | _ => False
theorem cb_t (K : Bool → Prop) : cb (.bool true) K = K true := rfl
theorem cb_f (K : Bool → Prop) : cb (.bool false) K = K false := rfl
theorem cb.intro {b : Bool} {K : Bool → Prop} (h1 : b = true → K true) (h2 : b = false → K false) : cb (.bool b) K := by
  cases b
  · exact h2 rfl
  · exact h1 rfl
theorem gb_unit (w : Bool) (K : Bool → Prop) : gb .unit w K = K false := rfl
theorem gb_tt (K : Bool → Prop) : gb (.bool true) true K = K true := rfl
theorem gb_ff (K : Bool → Prop) : gb (.bool false) false K = K true := rfl
theorem gb_tf (K : Bool → Prop) : gb (.bool true) false K = K false := rfl
theorem gb_ft (K : Bool → Prop) : gb (.bool false) true K = K false := rfl
theorem gb.intro {b want : Bool} {K : Bool → Prop} (h1 : b = want → K true) (h2 : b = (!want) → K false) : gb (.bool b) want K := by
  cases b <;> cases want <;> simp_all [gb]
def ACnd (P : Program) (n : Nat) (x y : Code) (Q : AExit → AState → Prop) (s : AState) : Bool → Prop
  | true => awp P n x Q s
  | false => awp P n y Q s
def AGo (P : Program) (n : Nat) (ops : Array Oper) (Q : AExit → AState → Prop) (dst : Option Tmp) (op : Op) (rest : List Oper) (s : AState) : Bool → Prop
  | true => osome (aop P s.h s.ev op) (AStep P n dst s (AOps P n ops Q rest) Q)
  | false => dstOK n dst = true ∧ AOps P n ops Q rest (s.put dst .unit)
def AGd (P : Program) (n : Nat) (ops : Array Oper) (Q : AExit → AState → Prop) (dst : Option Tmp) (op : Op) (want : Bool) (rest : List Oper) (s : AState) (d : Tmp) : Prop := gb (s.t d) want (AGo P n ops Q dst op rest s)
def ACont (dst : Option Tmp) (s : AState) (next : AState → Prop) (Q : AExit → AState → Prop) : ARes → AHeap → Prop
  | .ret v, h => next ({ s with h := h }.put dst v)
  | .panic v, h => Q (.panic v) { s with h := h }

def dstAt (ops : Array Oper) (j : Nat) : Option Tmp := (ops[j]?).bind (·.dst)
def dstAtL : List Oper → Nat → Option Tmp
  | [], _ => none
  | o :: _, 0 => o.dst
  | _ :: os, j + 1 => dstAtL os j
theorem dstAt_list (l : List Oper) (j : Nat) : dstAt l.toArray j = dstAtL l j := by
  simp only [dstAt, List.getElem?_toArray]
  induction l generalizing j with
  | nil => rfl
  | cons o os ih => cases j with
    | zero => rfl
    | succ j => simpa [dstAtL] using ih j

section
variable {P : Program} {n : Nat} {Q : AExit → AState → Prop} {s : AState}
theorem awp_skip : awp P n .skip Q s = Q .normal s := rfl
theorem awp_region (id : Nat) (l : List Oper) : awp P n (.region id l.toArray false) Q s = AOps P n l.toArray Q l s := rfl
theorem awp_draw (id : Nat) (ops : Array Oper) : awp P n (.region id ops true) Q s = ADraw P n id ops Q s := rfl
theorem awp_seq (a b : Code) : awp P n (.seq a b) Q s = awp P n a (AExit.then (awp P n b Q) Q) s := rfl
theorem awp_block (id : Nat) (c : Code) : awp P n (.block id c) Q s = awp P n c (AExit.inBlock id Q) s := rfl
theorem awp_loop (c : Code) : awp P n (.loop c) Q s = ALoop P n c Q s := rfl
theorem awp_exit (i : Nat) : awp P n (.exit i) Q s = Q (.exit i) s := rfl
theorem awp_scope (c : Code) : awp P n (.scope c) Q s = awp P n c (AExit.noGoto Q) s := rfl
theorem awp_ret : awp P n .ret Q s = Q .ret s := rfl
theorem awp_cond (c : Operand) (x y : Code) : awp P n (.cond c x y) Q s = cb (s.ev c) (ACnd P n x y Q s) := by
  simp only [awp, cb]
  cases hc : s.ev c <;> simp
  case bool b => cases b <;> simp [ACnd]
theorem ACnd_true (x y : Code) : ACnd P n x y Q s true = awp P n x Q s := rfl
theorem ACnd_false (x y : Code) : ACnd P n x y Q s false = awp P n y Q s := rfl
theorem then_normal (next : AState → Prop) : AExit.then next Q .normal s = next s := rfl
theorem then_exit (next : AState → Prop) (i : Nat) : AExit.then next Q (.exit i) s = Q (.exit i) s := rfl
theorem then_ret (next : AState → Prop) : AExit.then next Q .ret s = Q .ret s := rfl
theorem then_panic (next : AState → Prop) (v : AV) : AExit.then next Q (.panic v) s = Q (.panic v) s := rfl
theorem inBlock_normal (i : Nat) : AExit.inBlock i Q .normal s = Q .normal s := rfl
theorem inBlock_ret (i : Nat) : AExit.inBlock i Q .ret s = Q .ret s := rfl
theorem inBlock_panic (i : Nat) (v : AV) : AExit.inBlock i Q (.panic v) s = Q (.panic v) s := rfl
theorem inBlock_same (i : Nat) : AExit.inBlock i Q (.exit i) s = Q .normal s := by simp [AExit.inBlock]
theorem inBlock_other (i j : Nat) (h : j ≠ i) : AExit.inBlock i Q (.exit j) s = Q (.exit j) s := by simp [AExit.inBlock, h]
theorem noGoto_normal : AExit.noGoto Q .normal s = Q .normal s := rfl
theorem noGoto_exit (i : Nat) : AExit.noGoto Q (.exit i) s = Q (.exit i) s := rfl
theorem noGoto_ret : AExit.noGoto Q .ret s = Q .ret s := rfl
theorem noGoto_panic (v : AV) : AExit.noGoto Q (.panic v) s = Q (.panic v) s := rfl

variable {ops : Array Oper}
theorem AOps_nil : AOps P n ops Q [] s = Q .normal s := rfl
theorem AOps_cons (dst : Option Tmp) (op : Op) (ty : TypeId) (pos : String) (after : Array Edge) (rest : List Oper) :
    AOps P n ops Q (⟨dst, op, ty, pos, after, none⟩ :: rest) s = osome (aop P s.h s.ev op) (AStep P n dst s (AOps P n ops Q rest) Q) := rfl
theorem AOps_guard (dst : Option Tmp) (op : Op) (ty : TypeId) (pos : String) (after : Array Edge) (j : Nat) (want : Bool) (rest : List Oper) :
    AOps P n ops Q (⟨dst, op, ty, pos, after, some (j, want)⟩ :: rest) s = osome (dstAt ops j) (AGd P n ops Q dst op want rest s) := by
  simp only [AOps, AGuard, dstAt]
  cases (ops[j]?).bind (·.dst) with
  | none => rfl
  | some d =>
    simp only [osome_some, AGd, gb]
    cases hd : s.t d <;> simp only
    case bool b => cases b <;> cases want <;> rfl
    case tuple vs => rfl
theorem AGd_eq (dst : Option Tmp) (op : Op) (want : Bool) (rest : List Oper) (d : Tmp) : AGd P n ops Q dst op want rest s d = gb (s.t d) want (AGo P n ops Q dst op rest s) := rfl
theorem AGo_true (dst : Option Tmp) (op : Op) (rest : List Oper) : AGo P n ops Q dst op rest s true = osome (aop P s.h s.ev op) (AStep P n dst s (AOps P n ops Q rest) Q) := rfl
theorem AGo_false (dst : Option Tmp) (op : Op) (rest : List Oper) : AGo P n ops Q dst op rest s false = (dstOK n dst = true ∧ AOps P n ops Q rest (s.put dst .unit)) := rfl
theorem AStep_val (dst : Option Tmp) (next : AState → Prop) (v : AV) (h' : AHeap) : AStep P n dst s next Q (.val v h') = (dstOK n dst = true ∧ next ({ s with h := h' }.put dst v)) := rfl
theorem AStep_skip (dst : Option Tmp) (next : AState → Prop) (h' : AHeap) : AStep P n dst s next Q (.skip h') = (dstOK n dst = true ∧ next ({ s with h := h' }.put dst .undef)) := rfl
theorem AStep_call (dst : Option Tmp) (next : AState → Prop) (f : FuncId) (args : List AV) (h' : AHeap) : AStep P n dst s next Q (.call f args h') = (dstOK n dst = true ∧ ACall P f args h' (ACont dst s next Q)) := by
  have e : (fun r h'' => match r with
    | .ret v => next ({ s with h := h'' }.put dst v)
    | .panic v => Q (.panic v) { s with h := h'' } : ARes → AHeap → Prop) = ACont dst s next Q := by
    funext r h''
    cases r <;> rfl
  rw [← e]
  rfl
theorem AStep_pan (dst : Option Tmp) (next : AState → Prop) (v : AV) (h' : AHeap) : AStep P n dst s next Q (.pan v h') = Q (.panic v) { s with h := h' } := rfl
theorem AStep_pick (dst : Option Tmp) (next : AState → Prop) (opts : List (AV × AHeap)) : AStep P n dst s next Q (.pick opts) = (dstOK n dst = true ∧ ∀ q ∈ opts, next ({ s with h := q.2 }.put dst q.1)) := rfl
theorem dstOK_some (d : Nat) : dstOK n (some d) = decide (d < n) := rfl
theorem dstOK_none : dstOK n none = true := rfl
theorem put_some (t : Nat → AV) (h : AHeap) (ds : List (FuncId × List AV)) (d : Nat) (v : AV) : AState.put ⟨t, h, ds⟩ (some d) v = ⟨upd t d v, h, ds⟩ := rfl
theorem put_none (v : AV) : s.put none v = s := rfl
theorem ev_tmp (t : Nat → AV) (h : AHeap) (ds : List (FuncId × List AV)) (i : Nat) : AState.ev ⟨t, h, ds⟩ (.tmp i) = t i := rfl
theorem ev_const (v : Value) : s.ev (.const v) = ofConst v := rfl
theorem ev_func (f : FuncId) : s.ev (.func f) = .fn f [] [] := rfl
theorem upd_at (t : Nat → AV) (d i : Nat) (v : AV) : upd t d v i = if i = d then v else t i := rfl
end


/-! ### Less is known -/
theorem le_emp (t : Nat → AV) : ∀ i, le2 (emp i) (t i) := fun i => by simp [emp, le2, le1, le0]
theorem le_upd {τ t : Nat → AV} {d : Nat} {v : AV} (h : t d = v) (r : ∀ i, le2 (τ i) (t i)) : ∀ i, le2 (upd τ d v i) (t i) := fun i => by
  unfold upd
  split
  · rename_i hi; subst hi; rw [h]; exact le2.refl v
  · exact r i
theorem le_upd2 {τ t : Nat → AV} {d : Nat} {v : AV} (h : le2 v (t d)) (r : ∀ i, le2 (τ i) (t i)) : ∀ i, le2 (upd τ d v i) (t i) := fun i => by
  unfold upd
  split
  · rename_i hi; subst hi; exact h
  · exact r i
theorem AState.le_of {τ t : Nat → AV} {h : AHeap} {d : List (FuncId × List AV)} (ht : ∀ i, le2 (τ i) (t i)) : AState.le ⟨τ, h, d⟩ ⟨t, h, d⟩ := ⟨ht, AHeap.le_refl h, rfl⟩
theorem AState.le_refl (s : AState) : s.le s := ⟨fun i => le2.refl _, AHeap.le_refl _, rfl⟩

/-- The end of a function: what is told, as it is. -/
theorem AFin.ret_of {P : Program} {rs : List ResultVar} {R : ARes → AHeap → Prop} {s : AState} {v : AV} {h' : AHeap} (hr : ares P rs s = some (v, h')) (hd : s.d = []) (h : R (.ret v) h') : AFin P rs R .ret s :=
  ⟨hd, v, h', hr, v, h', le2.refl v, AHeap.le_refl h', h⟩
theorem AFin.end_of {P : Program} {rs : List ResultVar} {R : ARes → AHeap → Prop} {s : AState} {v : AV} {h' : AHeap} (hr : ares P rs s = some (v, h')) (hd : s.d = []) (h : R (.ret v) h') : AFin P rs R .normal s :=
  ⟨hd, v, h', hr, v, h', le2.refl v, AHeap.le_refl h', h⟩
theorem AFin.ret_of' {P : Program} {rs : List ResultVar} {R : ARes → AHeap → Prop} {s : AState} {v v' : AV} {h' h'' : AHeap} (hr : ares P rs s = some (v, h')) (hd : s.d = []) (hv : le2 v' v) (hh : h''.le h') (h : R (.ret v') h'') : AFin P rs R .ret s :=
  ⟨hd, v, h', hr, v', h'', hv, hh, h⟩

end Go.Proofs.YtolacfnciaimhaaGreatDoor
