/- The machine again, for one function's own code, where some comparisons are told beforehand: what was told is owed. -/
import Derived.Test.YtolacfnciaimhaaGreatDoorEv3
set_option linter.unusedVariables false
set_option linter.unusedSimpArgs false
namespace Go.Proofs.YtolacfnciaimhaaGreatDoor
open Go Go.RowKit

/-- What is told of places, and what is owed for it. -/
abbrev Told := List (Nat × Bool)
abbrev Owed := List (Bool × Bool)
abbrev ERD := Option ((AExit × AState) × Owed)
def Paid (o : Owed) : Prop := ∀ p ∈ o, p.1 = p.2
theorem Paid.left {a b : Owed} (h : Paid (a ++ b)) : Paid a := fun p hp => h p (List.mem_append_left _ hp)
theorem Paid.right {a b : Owed} (h : Paid (a ++ b)) : Paid b := fun p hp => h p (List.mem_append_right _ hp)
def toldAt : Told → Nat → Option Bool
  | [], _ => none
  | (i, b) :: rest, d => if Nat.beq i d then some b else toldAt rest d
def fixS (D : Told) (dst : Option Tmp) (s : AState) : AState × Owed := match dst with
  | none => (s, [])
  | some d => match toldAt D d with
    | none => (s, [])
    | some b => match s.t d with
      | .bool b0 => (⟨updF s.t d (.bool b), s.h, s.d⟩, [(b0, b)])
      | _ => (s, [])
theorem fixS_eq {D : Told} {dst : Option Tmp} {s : AState} (h : Paid (fixS D dst s).2) : (fixS D dst s).1 = s := by
  unfold fixS at h ⊢
  split
  · rfl
  · rename_i d
    simp only at h
    split
    · rfl
    · rename_i b hb
      rw [hb] at h
      simp only at h
      split
      · rename_i b0 hv
        rw [hv] at h
        have : b0 = b := h (b0, b) (by simp)
        subst this
        cases s with
        | mk t hh d0 =>
          simp only [AState.mk.injEq, and_true]
          rw [updF_eq]
          funext i
          unfold upd
          split
          · rename_i hi; subst hi; exact hv.symm
          · rfl
      · rfl
def owe (o : Owed) (r : ERD) : ERD := match r with
  | some (x, o') => some (x, o ++ o')
  | none => none
theorem owe_some {o : Owed} {r : ERD} {x : AExit × AState} {o' : Owed} (h : owe o r = some (x, o')) : ∃ o1, r = some (x, o1) ∧ o' = o ++ o1 := by
  unfold owe at h
  split at h
  · rename_i y o1; cases h; exact ⟨o1, rfl, rfl⟩
  · cases h

section
variable {P : Program} {n : Nat} {call : CallF}

def eOpsD (P : Program) (n : Nat) (call : CallF) (D : Told) (ops : List Oper) : List Oper → AState → ERD
  | [], s => some ((.normal, s), [])
  | o :: rest, s => match eOps P n call ops [o] s with
    | some (.normal, s') => owe (fixS D o.dst s').2 (eOpsD P n call D ops rest (fixS D o.dst s').1)
    | some r => some (r, [])
    | none => none
theorem eInto_map {β γ : Type} {dst : Option Tmp} {v : AV} {s : AState} {next : AState → Option β} {g : Option β → Option γ} (hg : g none = none) : g (eInto n dst v s next) = eInto n dst v s (fun s' => g (next s')) := by
  unfold eInto
  split
  · rfl
  · exact hg
theorem eCall_map {β γ : Type} {f : FuncId} {args : List AV} {h : AHeap} {k : Bool → ARes → AHeap → Option β} {g : Option β → Option γ} (hg : g none = none) : g (eCall call f args h k) = eCall call f args h fun a b c => g (k a b c) := by
  unfold eCall
  split
  · split
    · exact hg
    · split
      · rfl
      · split
        · exact hg
        · rfl
  · split
    · exact hg
    · rfl
theorem eStep_map {β γ : Type} {dst : Option Tmp} {s : AState} {q : Bool} {pan : AV → AState → Option β} {next : Bool → AState → Option β} {o : Option AOut} {g : Option β → Option γ} (hg : g none = none) :
    g (eStep n call dst s q pan next o) = eStep n call dst s q (fun v s' => g (pan v s')) (fun b s' => g (next b s')) o := by
  cases o with
  | none => exact hg
  | some out =>
    cases out with
    | val v h => exact eInto_map hg
    | skip h => exact eInto_map hg
    | call f args h =>
      simp only [eStep]
      rw [eCall_map hg]
      congr 1
      funext a b c
      cases b with
      | ret v => exact eInto_map hg
      | panic v => exact eInto_map hg
    | dfr f args h => exact eInto_map hg
    | pan v h => rfl
    | recov => exact hg
    | pick opts => exact hg
theorem eOps_cons {ops : List Oper} {o : Oper} {rest : List Oper} {s : AState} : eOps P n call ops (o :: rest) s = eThen (eOps P n call ops [o] s) (eOps P n call ops rest) := by
  have hg : (fun r => eThen r (eOps P n call ops rest)) none = none := rfl
  simp only [eOps]
  cases hgv : gval ops o.guard s with
  | none => rfl
  | some b =>
    cases b with
    | false =>
      simp only
      exact (eInto_map (next := fun x => (some (AExit.normal, x) : ER)) (g := fun r => eThen r (eOps P n call ops rest)) hg).symm
    | true =>
      simp only
      exact (eStep_map (pan := ePan) (next := fun _ x => (some (AExit.normal, x) : ER)) (g := fun r => eThen r (eOps P n call ops rest)) hg).symm
theorem eOpsD_ok {D : Told} {ops : List Oper} : ∀ (l : List Oper) (s : AState) (r : AExit × AState) (o : Owed), eOpsD P n call D ops l s = some (r, o) → Paid o → eOps P n call ops l s = some r
  | [], s, r, o, h, _ => by
    simp only [eOpsD, Option.some.injEq, Prod.mk.injEq] at h
    rw [← h.1]; rfl
  | p :: rest, s, r, o, h, hp => by
    rw [eOps_cons]
    simp only [eOpsD] at h
    split at h
    · rename_i s' h1
      obtain ⟨o1, h2, rfl⟩ := owe_some h
      rw [fixS_eq hp.left] at h2
      rw [h1]
      exact eOpsD_ok rest s' r o1 h2 hp.right
    · rename_i r' hne h1
      cases h
      rw [h1]
      unfold eThen
      split
      · rename_i s1 hs1
        cases hs1
        exact absurd rfl (hne s1)
      · rfl
    · cases h

def eDrD (P : Program) (n : Nat) (call : CallF) (D : Told) (ops : List Oper) (h0 : AHeap) (L : Locs) (E : Need) : List (Nat × Nat) → Bool → AState → ERD
  | [], _, s => some ((.normal, s), [])
  | (i, k) :: ord, ok, s => match opAt ops i with
    | none => none
    | some o => match gval ops o.guard s with
      | none => none
      | some false => eInto n o.dst .unit s (eDrD P n call D ops h0 L E ord ok)
      | some true => match k with
        | 0 => eLightB P call s o.op fun v => eInto n o.dst v s fun s' => owe (fixS D o.dst s').2 (eDrD P n call D ops h0 L E ord ok (fixS D o.dst s').1)
        | 1 => if ok || keepsL (needAt L i) h0 s.h then match aopL P (heldOf (needAt L i) h0) s.ev o.op with
            | some v => eInto n o.dst v s (eDrD P n call D ops h0 L E ord ok)
            | none => none
          else none
        | _ => eStep n call o.dst s (quiet s.ev o.op || (aopC P s.ev o.op).isSome) (fun v s => some ((.panic v, s), []))
            (fun kept s' => if kept && allLt L s.h.next then owe (fixS D o.dst s').2 (eDrD P n call D ops h0 L E ord ok (fixS D o.dst s').1)
              else if keepsA L (needAt E i) s.h s'.h then owe (fixS D o.dst s').2 (eDrD P n call D ops h0 L E ord false (fixS D o.dst s').1) else none) (aop P s.h s.ev o.op)
theorem eInto_rel {β γ : Type} {dst : Option Tmp} {v : AV} {s : AState} {f : AState → Option β} {g : AState → Option γ} {x : β} {y : γ} (h : eInto n dst v s f = some x) (hfg : ∀ s', f s' = some x → g s' = some y) : eInto n dst v s g = some y := by
  unfold eInto at h ⊢
  split at h
  · exact hfg _ h
  · cases h
theorem eStep_rel {β γ : Type} {dst : Option Tmp} {s : AState} {q : Bool} {pan : AV → AState → Option β} {next : Bool → AState → Option β} {pan' : AV → AState → Option γ} {next' : Bool → AState → Option γ} {o : Option AOut} {x : β} {y : γ}
    (h : eStep n call dst s q pan next o = some x) (hp : ∀ v s', pan v s' = some x → pan' v s' = some y) (hn : ∀ b s', next b s' = some x → next' b s' = some y) : eStep n call dst s q pan' next' o = some y := by
  cases o with
  | none => cases h
  | some out =>
    cases out with
    | val v h' => exact eInto_rel h (hn q)
    | skip h' => exact eInto_rel h (hn false)
    | call f args h' =>
      simp only [eStep] at h ⊢
      have key : ∀ (kept : Bool) (r : ARes) (h'' : AHeap), (match r with | .ret v => eInto n dst v ⟨s.t, h'', s.d⟩ (next (kept && q)) | .panic v => eInto n dst .undef ⟨s.t, h'', s.d⟩ fun _ => pan v ⟨s.t, h'', s.d⟩) = some x →
          (match r with | .ret v => eInto n dst v ⟨s.t, h'', s.d⟩ (next' (kept && q)) | .panic v => eInto n dst .undef ⟨s.t, h'', s.d⟩ fun _ => pan' v ⟨s.t, h'', s.d⟩) = some y := by
        intro kept r h'' hh
        cases r with
        | ret v => exact eInto_rel hh (hn _)
        | panic v => exact eInto_rel hh fun _ => hp _ _
      unfold eCall at h ⊢
      split at h
      · rename_i hl
        rw [if_pos hl]
        split at h
        · cases h
        · rename_i r1 h1 hc
          try simp only [hc]
          split at h
          · rename_i hr
            rw [if_pos hr]
            exact key _ _ _ h
          · rename_i hr
            rw [if_neg hr]
            split at h
            · cases h
            · rename_i r2 h2 hc2
              try simp only [hc2]
              exact key _ _ _ h
      · rename_i hl
        rw [if_neg hl]
        split at h
        · cases h
        · rename_i r2 h2 hc2
          try simp only [hc2]
          exact key _ _ _ h
    | dfr f args h' => exact eInto_rel h (hn false)
    | pan v h' => exact hp _ _ h
    | recov => cases h
    | pick opts => cases h
theorem eLightB_rel {β γ : Type} {s : AState} {op : Op} {k : AV → Option β} {k' : AV → Option γ} {x : β} {y : γ} (h : eLightB P call s op k = some x) (hk : ∀ v, k v = some x → k' v = some y) : eLightB P call s op k' = some y := by
  unfold eLightB at h ⊢
  split at h
  · rename_i q hq
    try simp only [hq]
    split at h
    · rename_i v h1 hc
      try simp only [hc]
      split at h
      · rename_i hn
        rw [if_pos hn]; exact hk _ h
      · cases h
    · cases h
  · rename_i hq
    try simp only [hq]
    split at h
    · rename_i v hv
      try simp only [hv]
      exact hk _ h
    · cases h
theorem eDrD_ok {D : Told} {ops : List Oper} {h0 : AHeap} {L : Locs} {E : Need} : ∀ (ord : List (Nat × Nat)) (ok : Bool) (s : AState) (r : AExit × AState) (o : Owed), eDrD P n call D ops h0 L E ord ok s = some (r, o) → Paid o → eDr P n call ops h0 L E ord ok s = some r
  | [], ok, s, r, o, h, _ => by
    simp only [eDrD, Option.some.injEq, Prod.mk.injEq] at h
    rw [← h.1]; rfl
  | (i, k) :: ord, ok, s, r, o, h, hp => by
    have step : ∀ (b : Bool) (dst : Option Tmp) s', owe (fixS D dst s').2 (eDrD P n call D ops h0 L E ord b (fixS D dst s').1) = some (r, o) → eDr P n call ops h0 L E ord b s' = some r := fun b dst s' h1 => by
      obtain ⟨o1, h2, rfl⟩ := owe_some h1
      rw [fixS_eq hp.left] at h2
      exact eDrD_ok ord b s' r o1 h2 hp.right
    simp only [eDrD] at h
    simp only [eDr]
    split at h
    · cases h
    rename_i op hop
    try simp only [hop]
    split at h
    · cases h
    · rename_i hg
      try simp only [hg]
      exact eInto_rel h fun s' h1 => eDrD_ok ord ok s' r o h1 hp
    · rename_i hg
      try simp only [hg]
      match k, h with
      | 0, h =>
        simp only at h ⊢
        exact eLightB_rel h fun v h1 => eInto_rel h1 fun s' h2 => step ok _ s' h2
      | 1, h =>
        simp only at h ⊢
        split at h
        · rename_i hk
          rw [if_pos hk]
          split at h
          · rename_i v hv
            try simp only [hv]
            exact eInto_rel h fun s' h1 => eDrD_ok ord ok s' r o h1 hp
          · cases h
        · cases h
      | k + 2, h =>
        simp only at h ⊢
        refine eStep_rel h (fun v s' h1 => ?_) fun b s' h1 => ?_
        · simp only [Option.some.injEq, Prod.mk.injEq] at h1
          rw [← h1.1]; rfl
        · split at h1
          · rename_i hh
            rw [if_pos hh]
            exact step ok _ s' h1
          · rename_i hh
            rw [if_neg hh]
            split at h1
            · rename_i hh2
              rw [if_pos hh2]
              exact step false _ s' h1
            · cases h1

def lone (r : ER) : ERD := match r with
  | some x => some (x, [])
  | none => none
theorem lone_some {r : ER} {x : AExit × AState} {o : Owed} (h : lone r = some (x, o)) : r = some x := by
  unfold lone at h
  split at h
  · cases h; rfl
  · cases h
def eCodeD (P : Program) (n : Nat) (call : CallF) (pl : Plan) (fuel : Nat) (D : Told) : Code → AState → ERD
  | .region id ops d, s => match d with
    | false => eOpsD P n call D ops.toList ops.toList s
    | true => match planAt pl id with
      | some (.ord ord E) => eDrD P n call D ops.toList s.h (eDry P ops.toList ord [] s) E ord true s
      | _ => none
  | .seq a b, s => match isAll pl a with
    | true => lone (eCode P n call pl fuel (.seq a b) s)
    | false => match eCodeD P n call pl fuel D a s with
      | some ((.normal, s1), o1) => owe o1 (eCodeD P n call pl fuel D b s1)
      | r => r
  | .cond c x y, s => match s.ev c with
    | .bool true => eCodeD P n call pl fuel D x s
    | .bool false => eCodeD P n call pl fuel D y s
    | _ => none
  | c, s => lone (eCode P n call pl fuel c s)
theorem eCodeD_ok {pl : Plan} {fuel : Nat} {D : Told} : ∀ (c : Code) (s : AState) (r : AExit × AState) (o : Owed), eCodeD P n call pl fuel D c s = some (r, o) → Paid o → eCode P n call pl fuel c s = some r := by
  intro c
  induction c with
  | region id ops d =>
    intro s r o h hp
    cases d with
    | false => exact eOpsD_ok _ s r o h hp
    | true =>
      simp only [eCodeD] at h
      simp only [eCode]
      split at h
      · rename_i ord E hpl
        try simp only [hpl]
        exact eDrD_ok _ _ s r o h hp
      · cases h
  | seq a b iha ihb =>
    intro s r o h hp
    simp only [eCodeD] at h
    split at h
    · exact lone_some h
    · rename_i hall
      simp only [eCode, hall]
      split at h
      · rename_i s1 o1 h1
        obtain ⟨o2, h2, rfl⟩ := owe_some h
        rw [iha s _ o1 h1 hp.left]
        exact ihb s1 r o2 h2 hp.right
      · rename_i hne
        rw [iha s r o h hp]
        unfold eThen
        split
        · rename_i s1 hs1
          cases hs1
          exact absurd h (by intro h; exact hne s1 o h)
        · rfl
  | cond c x y ihx ihy =>
    intro s r o h hp
    simp only [eCodeD] at h
    simp only [eCode]
    split at h
    · rename_i hb; simp only [hb]; exact ihx s r o h hp
    · rename_i hb; simp only [hb]; exact ihy s r o h hp
    · cases h
  | skip => intro s r o h hp; exact lone_some h
  | block id c ih => intro s r o h hp; exact lone_some h
  | loop c ih => intro s r o h hp; exact lone_some h
  | rangeFunc f ps a b iha ihb => intro s r o h hp; exact lone_some h
  | exit i => intro s r o h hp; exact lone_some h
  | scope c ih => intro s r o h hp; exact lone_some h
  | label l => intro s r o h hp; exact lone_some h
  | goto l => intro s r o h hp; exact lone_some h
  | ret => intro s r o h hp; exact lone_some h
  | refuse why => intro s r o h hp; exact lone_some h

/-- A function without deferred calls, run so: what is told of it, and what is owed. -/
def eFunD (P : Program) (tab : FuncId → Option FInfo) (lib : CallF → CallF) (fuel k : Nat) (D : Told) (f : FuncId) (args : List AV) (h : AHeap) : Option ((ARes × AHeap) × Owed) := match lib (eFun P tab lib fuel k) f args h with
  | some _ => none
  | none => match tab f with
  | none => none
  | some fi => if Nat.ble args.length fi.n then match eCodeD P fi.n (eFun P tab lib fuel k) fi.plan fuel D fi.body ⟨entry 0 args, h, []⟩ with
    | some ((.normal, s), o) => match eLeave P tab (eFun P tab lib fuel k) fuel fi.rs none s with
      | some r => some (r, o)
      | none => none
    | some ((.ret, s), o) => match eLeave P tab (eFun P tab lib fuel k) fuel fi.rs none s with
      | some r => some (r, o)
      | none => none
    | _ => none
    else none
theorem eFunD_ok {tab : FuncId → Option FInfo} {lib : CallF → CallF} {fuel k : Nat} {D : Told} {f : FuncId} {args : List AV} {h : AHeap} {r : ARes × AHeap} {o : Owed} (hx : eFunD P tab lib fuel k D f args h = some (r, o)) (hp : Paid o) : eFun P tab lib fuel (k + 1) f args h = some r := by
  unfold eFunD at hx
  split at hx
  · cases hx
  rename_i hlib
  split at hx
  · cases hx
  rename_i fi hfi
  simp only [eFun, hlib, hfi]
  split at hx
  case isFalse => cases hx
  rename_i hlen
  rw [if_pos hlen]
  split at hx
  · rename_i s o1 hc
    split at hx
    · rename_i r1 hl
      cases hx
      rw [eCodeD_ok _ _ _ _ hc hp]
      exact hl
    · cases hx
  · rename_i s o1 hc
    split at hx
    · rename_i r1 hl
      cases hx
      rw [eCodeD_ok _ _ _ _ hc hp]
      exact hl
    · cases hx
  · cases hx

/-- Told true, when what is owed is paid. -/
def saysIf : Option ((ARes × AHeap) × Owed) → Option Owed
  | some ((.ret (.bool true), _), o) => some o
  | _ => none
end
end Go.Proofs.YtolacfnciaimhaaGreatDoor
