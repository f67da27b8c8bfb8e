/- A machine that runs a function's code on abstract values, as far as its fuel goes; and that it is right. -/
import Derived.Test.YtolacfnciaimhaaGreatDoorAw18
set_option linter.unusedVariables false
set_option linter.unusedSimpArgs false
namespace Go.Proofs.YtolacfnciaimhaaGreatDoor
open Go Go.RowKit

abbrev ER := Option (AExit × AState)
abbrev CR := Option (ARes × AHeap)
abbrev CallF := FuncId → List AV → AHeap → CR

def gval (ops : List Oper) (g : Option (Nat × Bool)) (s : AState) : Option Bool := match g with
  | none => some true
  | some (j, want) => match dstAtL ops j with
    | some d => match s.t d with
      | .bool b => some (b == want)
      | .tuple _ => some false
      | _ => none
    | none => none

/-- As 'upd', for a quick look. -/
def updF (t : Nat → AV) (d : Nat) (v : AV) : Nat → AV := fun i => @Bool.casesOn (fun _ => AV) (Nat.beq i d) (t i) v
theorem updF_eq (t : Nat → AV) (d : Nat) (v : AV) : updF t d v = upd t d v := by
  funext i
  unfold updF upd
  by_cases h : i = d
  · subst h; simp
  · have : Nat.beq i d = false := by
      cases hb : Nat.beq i d with
      | false => rfl
      | true => exact absurd (Nat.eq_of_beq_eq_true hb) h
    rw [this, if_neg h]
def eput (n : Nat) (dst : Option Tmp) (v : AV) (s : AState) : Option AState := match dst with
  | none => some s
  | some d => if Nat.ble n d then none else some ⟨updF s.t d v, s.h, s.d⟩
def eInto {β : Type} (n : Nat) (dst : Option Tmp) (v : AV) (s : AState) (next : AState → Option β) : Option β := match eput n dst v s with
  | some s' => next s'
  | none => none

/-- The old places stay as they are. -/
def quiet (ev : Operand → AV) : Op → Bool
  | .move _ => true
  | .assign _ => true
  | .pick _ _ _ => true
  | .alloc _ => true
  | .box _ _ => true
  | .build _ _ => true
  | .buildSlice _ _ ps => (ps.toList.map fun p => ev p.2).all noR
  | .load _ _ => true
  | .nilCheck _ => true
  | .binOp _ _ _ _ _ => true
  | .unOp _ _ _ => true
  | .convert _ _ _ => true
  | .makeFunc _ _ _ => true
  | .fieldAddr _ _ _ => true
  | .field _ _ _ => true
  | .indexAddr _ _ _ => true
  | .index _ _ _ => true
  | .lookup _ _ _ _ => true
  | .typeAssert _ _ _ _ => true
  | .extract _ _ => true
  | _ => false

/-- A call that is handed no names leaves the heap alone. -/
def eCall {β : Type} (call : CallF) (f : FuncId) (args : List AV) (h : AHeap) (k : Bool → ARes → AHeap → Option β) : Option β :=
  if noLs args then match call f args noHeap with
    | none => none
    | some (r, _) => if r.noL then k true r h else match call f args h with
      | none => none
      | some (r, h') => k false r h'
  else match call f args h with
    | none => none
    | some (r, h') => k false r h'

/-- What an operation's outcome leads to; and whether the old places stayed as they were. -/
def eStep {β : Type} (n : Nat) (call : CallF) (dst : Option Tmp) (s : AState) (q : Bool) (pan : AV → AState → Option β) (next : Bool → AState → Option β) : Option AOut → Option β
  | none => none
  | some (.val v h') => eInto n dst v ⟨s.t, h', s.d⟩ (next q)
  | some (.skip h') => eInto n dst .undef ⟨s.t, h', s.d⟩ (next false)
  | some (.call f args h') => eCall call f args h' fun kept r h'' => match r with
    | .ret v => eInto n dst v ⟨s.t, h'', s.d⟩ (next (kept && q))
    | .panic v => eInto n dst .undef ⟨s.t, h'', s.d⟩ fun _ => pan v ⟨s.t, h'', s.d⟩
  | some (.dfr f args h') => eInto n dst .undef ⟨s.t, h', (f, args) :: s.d⟩ (next false)
  | some (.pan v h') => pan v ⟨s.t, h', s.d⟩
  | some .recov => none
  | some (.pick _) => none

def ePan : AV → AState → ER := fun v s => some (.panic v, s)
def eOps (P : Program) (n : Nat) (call : CallF) (ops : List Oper) : List Oper → AState → ER
  | [], s => some (.normal, s)
  | o :: rest, s => match gval ops o.guard s with
    | none => none
    | some false => eInto n o.dst .unit s (eOps P n call ops rest)
    | some true => eStep n call o.dst s false ePan (fun _ => eOps P n call ops rest) (aop P s.h s.ev o.op)

/-! ### A region that draws its order -/
/-- The places that its light loads look at. -/
def eLoc : AV → List Nat
  | .ptr l _ => [l]
  | .eptr l _ _ _ => [l]
  | .rslice l _ => [l]
  | .map l => [l]
  | _ => []
def eLook (ev : Operand → AV) : Op → List Nat
  | .load _ a => eLoc (ev a)
  | .indexAddr _ x _ => eLoc (ev x)
  | .lookup _ x _ _ => eLoc (ev x)
  | .slice _ x _ _ _ => eLoc (ev x)
  | _ => []
def heldOf (L : List Nat) (h : AHeap) : AHeap := ⟨0, fun l => if L.any (Nat.beq l) then h.get l else none⟩
def keepsL (L : List Nat) (h h' : AHeap) : Bool := L.all fun l => beqOp (h.get l) (h'.get l)
def ltL (L : List Nat) (m : Nat) : Bool := L.all fun l => Nat.ble (l + 1) m
/-- What each of them looks at. -/
abbrev Locs := List (Nat × List Nat)
def allLt (L : Locs) (m : Nat) : Bool := L.all fun p => ltL p.2 m
def keepsA (L : Locs) (qs : List Nat) (h h' : AHeap) : Bool := qs.all fun q => keepsL (needAt L q) h h'

def eLightB {β : Type} (P : Program) (call : CallF) (s : AState) (op : Op) (k : AV → Option β) : Option β := match aopC P s.ev op with
  | some q => match call q.1 q.2 noHeap with
    | some (.ret v, _) => if noL v then k v else none
    | _ => none
  | none => match aopL P noHeap s.ev op with
    | some v => k v
    | none => none
def eDr (P : Program) (n : Nat) (call : CallF) (ops : List Oper) (h0 : AHeap) (L : Locs) (E : Need) : List (Nat × Nat) → Bool → AState → ER
  | [], _, s => some (.normal, s)
  | (i, k) :: ord, ok, s => match opAt ops i with
    | none => none
    | some o => match gval ops o.guard s with
      | none => none
      | some false => eInto n o.dst .unit s (eDr P n call ops h0 L E ord ok)
      | some true => match k with
        | 0 => eLightB P call s o.op fun v => eInto n o.dst v s (eDr P n call ops h0 L E ord ok)
        | 1 => if ok || keepsL (needAt L i) h0 s.h then match aopL P (heldOf (needAt L i) h0) s.ev o.op with
            | some v => eInto n o.dst v s (eDr P n call ops h0 L E ord ok)
            | none => none
          else none
        | _ => eStep n call o.dst s (quiet s.ev o.op || (aopC P s.ev o.op).isSome) ePan
            (fun kept s' => if kept && allLt L s.h.next then eDr P n call ops h0 L E ord ok s' else if keepsA L (needAt E i) s.h s'.h then eDr P n call ops h0 L E ord false s' else none) (aop P s.h s.ev o.op)
/-- A dry run, for the places looked at; calls are left out. -/
def eDry (P : Program) (ops : List Oper) : List (Nat × Nat) → Locs → AState → Locs
  | [], L, _ => L
  | (i, k) :: ord, L, s => if (k != 1) && ord.all fun p => p.2 != 1 then L else match opAt ops i with
    | none => L
    | some o => match gval ops o.guard s with
      | some false => eDry P ops ord L (s.put o.dst .unit)
      | _ =>
        let L' := if k = 1 then (i, eLook s.ev o.op) :: L else L
        match aop P s.h s.ev o.op with
        | some (.val v h) => eDry P ops ord L' (AState.put ⟨s.t, h, s.d⟩ o.dst v)
        | some (.skip h) => eDry P ops ord L' ⟨s.t, h, s.d⟩
        | some (.call _ _ _) => eDry P ops ord L' (s.put o.dst .undef)
        | _ => eDry P ops ord L' (s.put o.dst .undef)

/-- Every order of what is not light. -/
def eTr (P : Program) (n : Nat) (call : CallF) (ops : List Oper) (h0 : AHeap) (L : Locs) (E : Need) : OT → Bool → Bool → AState → Option (List AState)
  | .done, true, _, s => some [s]
  | .done, false, _, _ => some []
  | .one i k rest, _, ok, s => match opAt ops i with
    | none => none
    | some o => match gval ops o.guard s with
      | none => none
      | some false => eInto n o.dst .unit s (eTr P n call ops h0 L E rest true ok)
      | some true => match k with
        | 0 => eLightB P call s o.op fun v => eInto n o.dst v s (eTr P n call ops h0 L E rest true ok)
        | _ => if ok || keepsL (needAt L i) h0 s.h then match aopL P (heldOf (needAt L i) h0) s.ev o.op with
            | some v => eInto n o.dst v s (eTr P n call ops h0 L E rest true ok)
            | none => none
          else none
  | .alt i sub more, _, ok, s => match eTr P n call ops h0 L E more false ok s with
    | none => none
    | some b => match opAt ops i with
      | none => none
      | some o => match (match gval ops o.guard s with
          | none => none
          | some false => eInto n o.dst .unit s (eTr P n call ops h0 L E sub true ok)
          | some true => eStep n call o.dst s (quiet s.ev o.op || (aopC P s.ev o.op).isSome) (fun _ _ => none)
              (fun kept s' => if kept && allLt L s.h.next then eTr P n call ops h0 L E sub true ok s' else if keepsA L (needAt E i) s.h s'.h then eTr P n call ops h0 L E sub true false s' else none) (aop P s.h s.ev o.op)) with
        | none => none
        | some a => some (a ++ b)
def sameX : AExit → AExit → Bool
  | .normal, .normal => true
  | .exit i, .exit j => Nat.beq i j
  | .ret, .ret => true
  | _, _ => false
def eMany (k : AState → ER) : List AState → ER
  | [] => none
  | o :: os => match os with
    | [] => k o
    | _ => match k o with
      | none => none
      | some (e, s) => match eMany k os with
        | none => none
        | some (e', s') => if sameX e e' then match ejoin s s' with
            | some j => some (e, j)
            | none => none
          else none

def eThen (r : ER) (next : AState → ER) : ER := match r with
  | some (.normal, s) => next s
  | r => r
def eLoop (body : AState → ER) : Nat → AState → ER
  | 0, _ => none
  | f + 1, s => eThen (body s) (eLoop body f)
/-! ### A map gone through: whichever entry comes next -/
def isPick : Code → Bool
  | .region _ ops false => ops.toList.any fun o => match o.op with
    | .next _ false => true
    | _ => false
  | _ => false
def ePicks (n : Nat) (dst : Option Tmp) (s : AState) (k : AState → Option (List AState)) : List (AV × AHeap) → Option (List AState)
  | [] => some []
  | q :: qs => match eInto n dst q.1 ⟨s.t, q.2, s.d⟩ k with
    | none => none
    | some a => match ePicks n dst s k qs with
      | none => none
      | some b => some (a ++ b)
def ePick (P : Program) (n : Nat) (call : CallF) (ops : List Oper) : List Oper → AState → Option (List AState)
  | [], s => some [s]
  | o :: rest, s => match gval ops o.guard s with
    | none => none
    | some false => eInto n o.dst .unit s (ePick P n call ops rest)
    | some true => match aop P s.h s.ev o.op with
      | some (.pick opts) => if dstOK n o.dst then ePicks n o.dst s (ePick P n call ops rest) opts else none
      | out => eStep n call o.dst s false (fun _ _ => none) (fun _ => ePick P n call ops rest) out
def eOutsP (P : Program) (n : Nat) (call : CallF) : Code → AState → Option (List AState)
  | .region _ ops false, s => ePick P n call ops.toList ops.toList s
  | _, _ => none
/-- Each way is gone to the loop's end. -/
def eLoopP (outs : AState → Option (List AState)) (b : AState → ER) : Nat → AState → ER
  | 0, _ => none
  | f + 1, s => match outs s with
    | none => none
    | some os => eMany (fun o => eThen (b o) (eLoopP outs b f)) os
def eBlock (id : Nat) (r : ER) : ER := match r with
  | some (.exit i, s) => if Nat.beq i id then some (.normal, s) else r
  | r => r
def eScope (r : ER) : ER := match r with
  | some (.goto _, _) => none
  | r => r

/-- How a region's order is taken: every order; or one, with what may change what is looked at. -/
inductive PEnt where
  | tree (T : OT) (o : List (Nat × Nat)) (E : Need)
  | ord (o : List (Nat × Nat)) (E : Need)
abbrev Plan := List (Nat × PEnt)
def planAt : Plan → Nat → Option PEnt
  | [], _ => none
  | (i, o) :: rest, id => if Nat.beq i id then some o else planAt rest id
/-- The outcomes of a region of which every order is taken. -/
def eOuts (P : Program) (n : Nat) (call : CallF) (pl : Plan) : Code → AState → Option (List AState)
  | .region id ops true, s => match planAt pl id with
    | some (.tree T ord E) => eTr P n call ops.toList s.h (eDry P ops.toList ord [] s) E T true true s
    | _ => none
  | _, _ => none
def isAll (pl : Plan) : Code → Bool
  | .region id _ true => match planAt pl id with
    | some (.tree _ _ _) => true
    | _ => false
  | _ => false

def cellTmp : ResultVar → Option Tmp
  | .cell a _ => some a
  | .tmp _ => none
/-- That the orders are such, and that the results' places are named elsewhere. -/
def okCode (keep : List Tmp) (pl : Plan) : Code → Bool
  | .region id ops true => match planAt pl id with
    | some (.ord ord E) => okOrd ops ord E && ops.toList.all fun o => match o.dst with
      | some d => !keep.contains d
      | none => true
    | some (.tree T _ E) => okTr ops T E
    | none => true
  | .seq a b => okCode keep pl a && okCode keep pl b
  | .cond _ a b => okCode keep pl a && okCode keep pl b
  | .block _ c => okCode keep pl c
  | .loop c => okCode keep pl c
  | .scope c => okCode keep pl c
  | _ => true

def eCode (P : Program) (n : Nat) (call : CallF) (pl : Plan) (fuel : Nat) : Code → AState → ER
  | .skip, s => some (.normal, s)
  | .region id ops d, s => match d with
    | false => eOps P n call ops.toList ops.toList s
    | true => match planAt pl id with
      | some (.ord ord E) => eDr P n call ops.toList s.h (eDry P ops.toList ord [] s) E ord true s
      | _ => none
  | .seq a b, s => match isAll pl a with
    | true => match eOuts P n call pl a s with
      | some outs => eMany (eCode P n call pl fuel b) outs
      | none => none
    | false => eThen (eCode P n call pl fuel a s) (eCode P n call pl fuel b)
  | .cond c x y, s => match s.ev c with
    | .bool true => eCode P n call pl fuel x s
    | .bool false => eCode P n call pl fuel y s
    | _ => none
  | .block id c, s => eBlock id (eCode P n call pl fuel c s)
  | .loop (.seq a b), s => match isPick a with
    | true => eLoopP (eOutsP P n call a) (eCode P n call pl fuel b) fuel s
    | false => eLoop (eCode P n call pl fuel (.seq a b)) fuel s
  | .loop c, s => eLoop (eCode P n call pl fuel c) fuel s
  | .exit i, s => some (.exit i, s)
  | .scope c, s => eScope (eCode P n call pl fuel c s)
  | .label _, s => some (.normal, s)
  | .ret, s => some (.ret, s)
  | _, _ => none

/-- What the machine knows of a function. -/
structure FInfo where
  n : Nat
  rs : List ResultVar
  body : Code
  plan : Plan

def eEnd (P : Program) (rs : List ResultVar) (s : AState) : CR := match ares P rs s with
  | some (v, h) => some (.ret v, h)
  | none => none
def eRecov (P : Program) (fi : FInfo) (call : CallF) (fuel : Nat) (args : List AV) (h : AHeap) (u : Option AV) : Option AHeap :=
  if Nat.ble args.length fi.n then match fi.body with
  | .seq (.region _ ops false) rest => match ops.toList with
    | ⟨some d0, .call ⟨.builtin .recover, ⟨[]⟩, _⟩, _, _, _, none⟩ :: l =>
      if Nat.ble fi.n d0 then none else match eThen (eOps P fi.n call ops.toList l ⟨upd (entry 0 args) d0 (u.getD .nili), h, []⟩) (eCode P fi.n call fi.plan fuel rest) with
      | some (.normal, s) => match s.d with
        | [] => some s.h
        | _ => none
      | some (.ret, s) => match s.d with
        | [] => some s.h
        | _ => none
      | _ => none
    | _ => none
  | _ => none
  else none
def eLeave (P : Program) (tab : FuncId → Option FInfo) (call : CallF) (fuel : Nat) (rs : List ResultVar) (u : Option AV) (s : AState) : CR := match s.d with
  | [] => match u with
    | none => eEnd P rs s
    | some v => some (.panic v, s.h)
  | [(g, xs)] => if callable P g && (u.isNone || rs.all fun r => (cellTmp r).isSome) then match tab g with
    | some gi => match gi.rs with
      | [] => match eRecov P gi call fuel xs s.h u with
        | some h' => eEnd P rs ⟨s.t, h', s.d⟩
        | none => none
      | _ => none
    | none => none
    else none
  | _ => none
def eFun (P : Program) (tab : FuncId → Option FInfo) (lib : CallF → CallF) (fuel : Nat) : Nat → CallF
  | 0, _, _, _ => none
  | k + 1, f, args, h => match lib (eFun P tab lib fuel k) f args h with
    | some r => some r
    | none => match tab f with
      | none => none
      | some fi => if Nat.ble args.length fi.n then match eCode P fi.n (eFun P tab lib fuel k) fi.plan fuel fi.body ⟨entry 0 args, h, []⟩ with
        | some (.normal, s) => eLeave P tab (eFun P tab lib fuel k) fuel fi.rs none s
        | some (.ret, s) => eLeave P tab (eFun P tab lib fuel k) fuel fi.rs none s
        | some (.panic v, s) => eLeave P tab (eFun P tab lib fuel k) fuel fi.rs (some v) s
        | _ => none
        else none

end Go.Proofs.YtolacfnciaimhaaGreatDoor
