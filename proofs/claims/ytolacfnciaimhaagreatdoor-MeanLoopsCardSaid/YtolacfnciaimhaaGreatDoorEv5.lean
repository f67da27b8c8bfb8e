/- The machine for a function in which entries of a map come in any order: each way is gone to the function's end, and what is told there is joined. -/
import Derived.Test.YtolacfnciaimhaaGreatDoorEv4
set_option linter.unusedVariables false
set_option linter.unusedSimpArgs false
namespace Go.Proofs.YtolacfnciaimhaaGreatDoor
open Go Go.RowKit

def RLe (r r1 : ARes × AHeap) : Prop := r.1 = r1.1 ∧ r.2.sle r1.2
theorem RLe.refl (r : ARes × AHeap) : RLe r r := ⟨rfl, fun _ _ H => H⟩
theorem RLe.trans {a b c : ARes × AHeap} (h : RLe a b) (k : RLe b c) : RLe a c := ⟨h.1.trans k.1, fun K w H => h.2 K w (k.2 K w H)⟩
/-- More names may be taken. -/
def AHeap.raise (h : AHeap) (n : Nat) : AHeap := ⟨n, fun l => if Nat.blt l h.next then h.get l else none⟩
theorem raise_sle {h : AHeap} {n : Nat} (hn : h.next ≤ n) : (h.raise n).sle h := fun K w H => by
  have get : ∀ l x, (h.raise n).get l = some x → h.get l = some x := fun l x e => by
    simp only [AHeap.raise] at e
    split at e
    · exact e
    · cases e
  exact ⟨H.fix, fun l x e => H.obj l x (get l x e), fun l l' x x' p p' e e' => H.sep l l' x x' p p' (get l x e) (get l' x' e'), fun l x p e => H.nofix l x p (get l x e), fun l hl => H.fresh l (Nat.le_trans hn hl),
    fun b o hb => let ⟨h1, h2, h3⟩ := H.frame b o hb; ⟨h1, h2, fun l x p e => h3 l x p (get l x e)⟩, fun l m seen es p q e1 e2 => H.iter l m seen es p q (get _ _ e1) (get _ _ e2)⟩
theorem jg_sle (n : Nat) (g k : Nat → Option AObj) : (AHeap.mk n (jg g k)).sle ⟨n, g⟩ ∧ (AHeap.mk n (jg g k)).sle ⟨n, k⟩ :=
  ⟨.of_le ⟨rfl, fun l x e => jg_left g k l x e⟩, .of_le ⟨rfl, fun l x e => jg_right g k l x e⟩⟩
def hjoin (h h' : AHeap) : AHeap := if Nat.ble h.next h'.next then ⟨h'.next, jg (h.raise h'.next).get h'.get⟩ else ⟨h.next, jg h.get (h'.raise h.next).get⟩
theorem hjoin_sle (h h' : AHeap) : (hjoin h h').sle h ∧ (hjoin h h').sle h' := by
  unfold hjoin
  split
  · rename_i hn
    obtain ⟨h1, h2⟩ := jg_sle h'.next (h.raise h'.next).get h'.get
    exact ⟨fun K w H => h1 K w (raise_sle (Nat.le_of_ble_eq_true hn) K w H), h2⟩
  · rename_i hn
    have hle : h'.next ≤ h.next := Nat.le_of_lt (Nat.lt_of_not_le fun hh => hn (Nat.ble_eq_true_of_le hh))
    obtain ⟨h1, h2⟩ := jg_sle h.next h.get (h'.raise h.next).get
    exact ⟨h1, fun K w H => h2 K w (raise_sle hle K w H)⟩
def rjoin : ARes × AHeap → ARes × AHeap → CR
  | (.ret v, h), (.ret v', h') => if beqV v v' then some (.ret v, hjoin h h') else none
  | _, _ => none
theorem rjoin_le {a b j : ARes × AHeap} (h : rjoin a b = some j) : RLe j a ∧ RLe j b := by
  unfold rjoin at h
  split at h
  · rename_i v h1 v' h2
    split at h
    · rename_i hv
      have := beqV_eq _ _ hv
      subst this
      cases h
      obtain ⟨l1, l2⟩ := hjoin_sle h1 h2
      exact ⟨⟨rfl, l1⟩, ⟨rfl, l2⟩⟩
    · cases h
  · cases h
def eManyR (k : AState → CR) : List AState → CR
  | [] => none
  | o :: os => match os with
    | [] => k o
    | _ => match k o with
      | none => none
      | some a => match eManyR k os with
        | none => none
        | some b => rjoin a b
theorem eManyR_ok {k : AState → CR} : ∀ {os : List AState} {r : ARes × AHeap}, eManyR k os = some r → ∀ o ∈ os, ∃ r1, k o = some r1 ∧ RLe r r1
  | [], _, h, o, ho => by cases h
  | [a], r, h, o, ho => by
    simp only [List.mem_singleton] at ho
    subst ho
    exact ⟨r, h, .refl r⟩
  | a :: b :: os, r, h, o, ho => by
    unfold eManyR at h
    simp only at h
    split at h
    · cases h
    · rename_i x hx
      split at h
      · cases h
      · rename_i y hy
        obtain ⟨l1, l2⟩ := rjoin_le h
        rcases List.mem_cons.1 ho with rfl | ho
        · exact ⟨x, hx, l1⟩
        · obtain ⟨r1, h1, h2⟩ := eManyR_ok hy o ho
          exact ⟨r1, h1, l2.trans h2⟩

abbrev KF := AExit → AState → CR
def kThen (k : KF) (next : AState → CR) : KF := fun x s => match x with
  | .normal => next s
  | x => k x s
def kBlock (id : Nat) (k : KF) : KF := fun x s => match x with
  | .exit i => if Nat.beq i id then k .normal s else k x s
  | x => k x s
def eLoopK (body : KF → AState → CR) (k : KF) : Nat → AState → CR
  | 0, _ => none
  | f + 1, s => body (kThen k (eLoopK body k f)) s
def kOf (k : KF) (r : ER) : CR := match r with
  | some (.panic _, _) => none
  | some (x, s) => k x s
  | none => none
def eK (P : Program) (n : Nat) (call : CallF) (pl : Plan) (fuel : Nat) : Code → KF → AState → CR
  | .seq a b, k, s => eK P n call pl fuel a (kThen k (eK P n call pl fuel b k)) s
  | .cond c x y, k, s => match s.ev c with
    | .bool true => eK P n call pl fuel x k s
    | .bool false => eK P n call pl fuel y k s
    | _ => none
  | .block id c, k, s => eK P n call pl fuel c (kBlock id k) s
  | .loop c, k, s => eLoopK (eK P n call pl fuel c) k fuel s
  | .region id ops d, k, s => match isPick (.region id ops d) with
    | true => match eOutsP P n call (.region id ops d) s with
      | some os => eManyR (k .normal) os
      | none => none
    | false => kOf k (eCode P n call pl fuel (.region id ops d) s)
  | c, k, s => kOf k (eCode P n call pl fuel c s)

section
variable {P : Program} {n : Nat} {call : CallF}
/-- What is told behind it. -/
def KQ (k : KF) (r : ARes × AHeap) : AExit → AState → Prop := fun x s => ∃ r1, k x s = some r1 ∧ RLe r r1
theorem kOf_ok {pl : Plan} {fuel : Nat} {keep : List Tmp} (hmix : P.follows .mixedOrders = true) (hc : CallOK P call) {c : Code} (hok : okCode keep pl c = true) {k : KF} {s : AState} {r : ARes × AHeap} (h : kOf k (eCode P n call pl fuel c s) = some r) : AWP P n c (KQ k r) s := by
  unfold kOf at h
  split at h
  · cases h
  · rename_i x s1 hne hx
    refine (eCode_ok (keep := keep) hmix hc c hok s x s1 hx).mono fun x' sx hf => ?_
    obtain ⟨rfl, hs⟩ := hf
    rcases hs with rfl | ⟨⟨v, hv⟩, _⟩
    · exact ⟨r, h, .refl r⟩
    · exact absurd (by rw [hv]) (hne v)
  · cases h
theorem eK_ok {pl : Plan} {fuel : Nat} {keep : List Tmp} (hmix : P.follows .mixedOrders = true) (hc : CallOK P call) : ∀ (c : Code), okCode keep pl c = true → ∀ (k : KF) (s : AState) (r : ARes × AHeap), eK P n call pl fuel c k s = some r → AWP P n c (KQ k r) s := by
  intro c
  induction c with
  | seq a b iha ihb =>
    intro hok k s r h
    simp only [okCode, Bool.and_eq_true] at hok
    simp only [eK] at h
    refine .seq ((iha hok.1 _ s r h).mono fun x sx hq => ?_)
    obtain ⟨r1, h1, l1⟩ := hq
    cases x with
    | normal =>
      refine (ihb hok.2 k sx r1 h1).mono fun y sy hq => ?_
      obtain ⟨r2, h2, l2⟩ := hq
      exact ⟨r2, h2, l1.trans l2⟩
    | _ => exact ⟨r1, h1, l1⟩
  | cond c x y ihx ihy =>
    intro hok k s r h
    simp only [okCode, Bool.and_eq_true] at hok
    simp only [eK] at h
    split at h
    · rename_i hb
      exact .cond hb (fun _ => ihx hok.1 k s r h) (fun e => by cases e)
    · rename_i hb
      exact .cond hb (fun e => by cases e) (fun _ => ihy hok.2 k s r h)
    · cases h
  | block id c ih =>
    intro hok k s r h
    simp only [okCode] at hok
    simp only [eK] at h
    refine .block ((ih hok _ s r h).mono fun x sx hq => ?_)
    obtain ⟨r1, h1, l1⟩ := hq
    cases x with
    | exit i =>
      simp only [AExit.inBlock]
      simp only [kBlock] at h1
      split at h1
      · rename_i hi
        rw [if_pos (Nat.eq_of_beq_eq_true hi)]
        exact ⟨r1, h1, l1⟩
      · rename_i hi
        rw [if_neg (fun e => hi (by rw [e]; exact Nat.beq_refl _))]
        exact ⟨r1, h1, l1⟩
    | _ => exact ⟨r1, h1, l1⟩
  | loop c ih =>
    intro hok k s r h
    simp only [okCode] at hok
    simp only [eK] at h
    let p : AState → Nat → Prop := fun s f => ∃ r1, eLoopK (eK P n call pl fuel c) k f s = some r1 ∧ RLe r r1
    refine AWP.loop (fun s => ∃ f, p s f) (fun s => rank (p s)) ⟨fuel, r, h, .refl r⟩ fun s hs => ?_
    obtain ⟨h1, h2⟩ := rank_spec hs
    generalize hr : rank (p s) = m at h1 h2
    cases m with
    | zero => obtain ⟨r1, h1, _⟩ := h1; cases h1
    | succ m =>
      obtain ⟨r1, h1, l1⟩ := h1
      simp only [eLoopK] at h1
      refine (ih hok _ s r1 h1).mono fun x sx hq => ?_
      obtain ⟨r2, h3, l2⟩ := hq
      cases x with
      | normal =>
        have hp : p sx m := ⟨r2, h3, l1.trans l2⟩
        refine ⟨sx, AState.le_refl sx, ⟨m, hp⟩, ?_⟩
        obtain ⟨_, h7⟩ := rank_spec (p := p sx) ⟨m, hp⟩
        exact Nat.lt_of_not_le fun hle => h7 m (by omega) hp
      | _ => exact ⟨r2, h3, l1.trans l2⟩
  | region id ops d =>
    intro hok k s r h
    simp only [eK] at h
    split at h
    · split at h
      · rename_i os hos
        cases d with
        | true => simp only [eOutsP] at hos; cases hos
        | false =>
          simp only [eOutsP] at hos
          have h3 := ePick_ok hc (Q := fun x sx => x = .normal ∧ KQ k r .normal sx) ops.toList s os hos fun o ho => ⟨rfl, eManyR_ok h o ho⟩
          refine (AWP.region (by simpa using h3)).mono fun x sx hx => ?_
          obtain ⟨rfl, hx⟩ := hx
          exact hx
      · cases h
    · exact kOf_ok hmix hc hok h
  | skip => intro hok k s r h; exact kOf_ok hmix hc hok h
  | rangeFunc f ps a b _ _ => intro hok k s r h; exact kOf_ok hmix hc hok h
  | exit i => intro hok k s r h; exact kOf_ok hmix hc hok h
  | scope c _ => intro hok k s r h; exact kOf_ok hmix hc hok h
  | label l => intro hok k s r h; exact kOf_ok hmix hc hok h
  | goto l => intro hok k s r h; exact kOf_ok hmix hc hok h
  | ret => intro hok k s r h; exact kOf_ok hmix hc hok h
  | refuse w => intro hok k s r h; exact kOf_ok hmix hc hok h

def kEnd (P : Program) (rs : List ResultVar) : KF := fun x s => match x with
  | .normal => match s.d with
    | [] => eEnd P rs s
    | _ => none
  | .ret => match s.d with
    | [] => eEnd P rs s
    | _ => none
  | _ => none
/-- A function, run so. -/
def eFunK (P : Program) (tab : FuncId → Option FInfo) (fuel : Nat) (call : CallF) : CallF := fun f args h => match tab f with
  | none => none
  | some fi => if Nat.ble args.length fi.n then eK P fi.n call fi.plan fuel fi.body (kEnd P fi.rs) ⟨entry 0 args, h, []⟩ else none
theorem eFunK_ok (hmix : P.follows .mixedOrders = true) {tab : FuncId → Option FInfo} (ht : TabOK P tab) (fuel : Nat) (hc : CallOK P call) : CallOK P (eFunK P tab fuel call) := by
  intro f args h r h' hx
  unfold eFunK at hx
  split at hx
  · cases hx
  rename_i fi hfi
  obtain ⟨fn, hf, hb, hm, hrs, hok⟩ := ht f fi hfi
  split at hx
  case isFalse => cases hx
  rename_i hlen
  have hw := eK_ok (keep := fi.rs.filterMap cellTmp) hmix hc fi.body hok _ _ _ hx
  have key : ACall P f args h fun a b => RLe (r, h') (a, b) := by
    refine ACall.of_body hf hb hm (Nat.le_of_ble_eq_true hlen) hrs (hw.mono fun x s hq => ?_)
    obtain ⟨⟨r1, h1⟩, hk, hl⟩ := hq
    unfold kEnd at hk
    split at hk
    · split at hk
      · rename_i hd
        unfold eEnd at hk
        split at hk
        · rename_i v h2 hr
          cases hk
          exact AFin.end_of hr hd hl
        · cases hk
      · cases hk
    · split at hk
      · rename_i hd
        unfold eEnd at hk
        split at hk
        · rename_i v h2 hr
          cases hk
          exact AFin.ret_of hr hd hl
        · cases hk
      · cases hk
    · cases hk
  intro K w vs H hv
  refine (key K w vs H hv).mono fun e w' ⟨K', h1, r1, g1, g2, g3, g4, g5⟩ => ?_
  obtain ⟨g6, g7⟩ := g5
  exact ⟨K', h', r, g1, g7 K' w' g2, g3, by rw [show r = r1 from g6]; exact g4, rfl, rfl⟩
end
end Go.Proofs.YtolacfnciaimhaaGreatDoor
