/- The machine is right. -/
import Derived.Test.YtolacfnciaimhaaGreatDoorEv1
set_option linter.unusedVariables false
set_option linter.unusedSimpArgs false
namespace Go.Proofs.YtolacfnciaimhaaGreatDoor
open Go Go.RowKit

def Fin (keep : List Tmp) (e : AExit) (s' : AState) : AExit → AState → Prop := fun e1 s1 => e1 = e ∧ (s1 = s' ∨ ((∃ v, e = .panic v) ∧ s1.h = s'.h ∧ s1.d = s'.d ∧ ∀ i, keep.contains i = true → s1.t i = s'.t i))
theorem Fin.same {keep : List Tmp} {e : AExit} {s : AState} : Fin keep e s e s := ⟨rfl, .inl rfl⟩
def CallOK (P : Program) (call : CallF) : Prop := ∀ f args h r h', call f args h = some (r, h') → ACall P f args h fun a b => a = r ∧ b = h'

section
variable {P : Program} {n : Nat} {call : CallF}

theorem gval_ok {ops : List Oper} {o : Oper} {s : AState} {b : Bool} (h : gval ops o.guard s = some b) {K : Bool → Prop} (k : K b) : AGuard ops.toArray o s K := by
  unfold gval at h
  unfold AGuard
  split at h
  · rename_i hg
    rw [hg]
    cases h
    exact k
  · rename_i j want hg
    rw [hg]
    simp only
    have e : (ops.toArray[j]?).bind (·.dst) = dstAtL ops j := dstAt_list ops j
    rw [e]
    split at h
    · rename_i d hd
      rw [hd]
      simp only
      split at h
      · rename_i x hx; rw [hx]; cases h; exact k
      · rename_i vs hx; rw [hx]; cases h; exact k
      · cases h
    · cases h

theorem eInto_ok {β : Type} {dst : Option Tmp} {v : AV} {s : AState} {next : AState → Option β} {x : β} (h : eInto n dst v s next = some x) : dstOK n dst = true ∧ next (s.put dst v) = some x := by
  unfold eInto eput at h
  cases dst with
  | none => exact ⟨rfl, h⟩
  | some d =>
    simp only at h
    by_cases hd : Nat.ble n d = true
    · rw [if_pos hd] at h; cases h
    · rw [if_neg hd, updF_eq] at h
      refine ⟨?_, h⟩
      simp only [dstOK, decide_eq_true_eq]
      exact Nat.lt_of_not_le fun hh => hd (Nat.ble_eq_true_of_le hh)

theorem noLs_any (f : FuncId) (args : List AV) (call : CallF) : True := trivial
theorem eCall_ok (hc : CallOK P call) {β : Type} {f : FuncId} {args : List AV} {h : AHeap} {k : Bool → ARes → AHeap → Option β} {x : β} (hx : eCall call f args h k = some x) :
    ∃ kept r h', k kept r h' = some x ∧ (kept = true → h' = h) ∧ ACall P f args h fun a b => a = r ∧ b = h' := by
  unfold eCall at hx
  split at hx
  · rename_i hn
    split at hx
    · cases hx
    · rename_i r h1 hcall
      split at hx
      · rename_i hr
        refine ⟨true, r, h, hx, fun _ => rfl, ?_⟩
        have h2 := (hc f args noHeap r h1 hcall).mono (R' := fun a _ => a = r ∧ a.noL = true) fun a b hab => ⟨hab.1, by rw [hab.1]; exact hr⟩
        exact ACall.frame (R := fun a => a = r) hn (fun l => rfl) h2 h
      · split at hx
        · cases hx
        · rename_i r2 h2 hcall2
          exact ⟨false, r2, h2, hx, fun e => (by cases e), hc f args h r2 h2 hcall2⟩
  · split at hx
    · cases hx
    · rename_i r2 h2 hcall2
      exact ⟨false, r2, h2, hx, fun e => (by cases e), hc f args h r2 h2 hcall2⟩

/-- The old places are the same. -/
def outSame (h : AHeap) : AOut → Prop
  | .val _ h' => ∀ l, l < h.next → h'.get l = h.get l
  | .call _ _ h' => h' = h
  | _ => True

theorem eStep_ok (hc : CallOK P call) {β : Type} {dst : Option Tmp} {s : AState} {q : Bool} {pan : AV → AState → Option β} {next : Bool → AState → Option β} {o : Option AOut} {x : β} (hx : eStep n call dst s q pan next o = some x)
    (hq : q = true → ∀ out, o = some out → outSame s.h out) {nx : AState → Prop} {Q : AExit → AState → Prop}
    (hpan : ∀ v s1, pan v s1 = some x → Q (.panic v) s1) (hnext : ∀ kept s1, next kept s1 = some x → (kept = true → ∀ l, l < s.h.next → s1.h.get l = s.h.get l) → nx s1) : osome o (AStep P n dst s nx Q) := by
  have put_h : ∀ (s : AState) (d : Option Tmp) (v : AV), (s.put d v).h = s.h := fun s d v => by cases d <;> rfl
  cases o with
  | none => cases hx
  | some out =>
    simp only [osome]
    cases out with
    | val v h' =>
      obtain ⟨hd, h1⟩ := eInto_ok hx
      refine ⟨hd, hnext q _ h1 fun e l hl => ?_⟩
      rw [put_h]
      exact hq e _ rfl l hl
    | skip h' =>
      obtain ⟨hd, h1⟩ := eInto_ok hx
      exact ⟨hd, hnext false _ h1 fun e => (by cases e)⟩
    | call f args h' =>
      simp only [eStep] at hx
      obtain ⟨kept, r, h'', h1, hk, hcall⟩ := eCall_ok hc hx
      cases r with
      | ret v =>
        obtain ⟨hd, h2⟩ := eInto_ok h1
        refine ⟨hd, hcall.mono fun a b hab => ?_⟩
        obtain ⟨rfl, rfl⟩ := hab
        refine hnext _ _ h2 fun e l hl => ?_
        rw [put_h]
        simp only [Bool.and_eq_true] at e
        have e1 : h' = s.h := hq e.2 _ rfl
        show b.get l = s.h.get l
        rw [hk e.1, e1]
      | panic v =>
        obtain ⟨hd, h2⟩ := eInto_ok h1
        refine ⟨hd, hcall.mono fun a b hab => ?_⟩
        obtain ⟨rfl, rfl⟩ := hab
        exact hpan _ _ h2
    | dfr f args h' =>
      obtain ⟨hd, h1⟩ := eInto_ok hx
      exact ⟨hd, hnext false _ h1 fun e => (by cases e)⟩
    | pan v h' => exact hpan _ _ hx
    | recov => cases hx
    | pick opts => cases hx

theorem eOps_ok (hc : CallOK P call) {ops : List Oper} {keep : List Tmp} {e : AExit} {s' : AState} : ∀ (l : List Oper) (s : AState), eOps P n call ops l s = some (e, s') → AOps P n ops.toArray (Fin keep e s') l s
  | [], s, h => by
    simp only [eOps, Option.some.injEq, Prod.mk.injEq] at h
    obtain ⟨rfl, rfl⟩ := h
    exact .same
  | o :: rest, s, h => by
    simp only [eOps] at h
    simp only [AOps]
    split at h
    · cases h
    · rename_i hg
      obtain ⟨hd, h1⟩ := eInto_ok h
      exact gval_ok hg ⟨hd, eOps_ok hc rest _ h1⟩
    · rename_i hg
      refine gval_ok hg (eStep_ok hc h (fun e => (by cases e)) (fun v s1 hp => ?_) fun kept s1 h1 _ => eOps_ok hc rest _ h1)
      simp only [ePan, Option.some.injEq, Prod.mk.injEq] at hp
      obtain ⟨rfl, rfl⟩ := hp
      exact .same

theorem otell_same {h : AHeap} {o : Option AV} {out : AOut} (e : otell h o = some out) : outSame h out := by
  obtain ⟨x, _, rfl⟩ := Option.map_eq_some_iff.1 e
  exact fun l hl => rfl
theorem ores_push {h : AHeap} {x : AV} {o : AObj} {out : AOut} (e : ores (some (x, h.push o)) = some out) : outSame h out := by
  simp only [ores, Option.map_some, Option.some.injEq] at e
  subst e
  intro l hl
  simp only [AHeap.push, updg]
  rw [if_neg (by omega)]
theorem quiet_ok {h : AHeap} {ev : Operand → AV} {op : Op} (hq : quiet ev op = true) {out : AOut} (ho : aop P h ev op = some out) : outSame h out := by
  cases op <;> simp only [quiet] at hq <;> try (cases hq; done)
  all_goals simp only [aop] at ho
  case move => cases ho; exact fun l hl => rfl
  case assign => cases ho; exact fun l hl => rfl
  case pick => split at ho <;> first | (cases ho; exact fun l hl => rfl) | cases ho
  case alloc t =>
    simp only [aalloc] at ho
    cases hz : tzero P t with
    | none => rw [hz] at ho; cases ho
    | some zs => rw [hz] at ho; exact ores_push ho
  case box t x =>
    simp only [abox] at ho
    cases hz : cellsOf (ev x) with
    | none => rw [hz] at ho; cases ho
    | some zs => rw [hz] at ho; exact ores_push ho
  case build => exact otell_same ho
  case buildSlice t m ps =>
    rw [afrzl_noR hq, Option.bind_some] at ho
    obtain ⟨⟨y, h'⟩, hy, rfl⟩ := Option.map_eq_some_iff.1 ho
    have key : ∀ y1 h1, abuildSlice P h t m (zipParts ps.toList (ps.toList.map fun p => ev p.2)) = some (y1, h1) → ∀ l, l < h.next → h1.get l = h.get l := by
      intro y1 h1 hy
      unfold abuildSlice at hy
      obtain ⟨e, he, hy⟩ := Option.bind_eq_some_iff.1 hy
      obtain ⟨p, hp, hy⟩ := Option.bind_eq_some_iff.1 hy
      obtain ⟨zs, hz, hy⟩ := Option.bind_eq_some_iff.1 hy
      split at hy
      · obtain ⟨rows, hr, hy⟩ := Option.map_eq_some_iff.1 hy
        cases hy
        intro l hl
        simp only [AHeap.push, updg]
        rw [if_neg (by omega)]
      · cases hy
    have name : ∀ l n h1, abuildSlice P h t m (zipParts ps.toList (ps.toList.map fun p => ev p.2)) = some (.rslice l n, h1) → l = h.next := by
      intro l n h1 hy
      unfold abuildSlice at hy
      obtain ⟨e, he, hy⟩ := Option.bind_eq_some_iff.1 hy
      obtain ⟨p, hp, hy⟩ := Option.bind_eq_some_iff.1 hy
      obtain ⟨zs, hz, hy⟩ := Option.bind_eq_some_iff.1 hy
      split at hy
      · obtain ⟨rows, hr, hy⟩ := Option.map_eq_some_iff.1 hy
        cases hy
        rfl
      · cases hy
    unfold abuildF at hy
    split at hy
    · rename_i l n h1 hb
      have hl0 := name l n h1 hb
      have hk := key _ _ hb
      split at hy
      · split at hy
        · cases hy
          exact fun i hi => rfl
        · cases hy; exact hk
      · cases hy; exact hk
    · exact key _ _ hy
  case load => exact otell_same ho
  case nilCheck => split at ho <;> first | (cases ho; exact fun l hl => rfl) | cases ho
  case binOp => exact otell_same ho
  case unOp => exact otell_same ho
  case convert => exact otell_same ho
  case makeFunc fn a b => cases fn <;> simp only at ho <;> first | (cases ho; exact fun l hl => rfl) | cases ho
  case fieldAddr => exact otell_same ho
  case field => exact otell_same ho
  case indexAddr => exact otell_same ho
  case index => exact otell_same ho
  case lookup => exact otell_same ho
  case typeAssert => exact otell_same ho
  case extract => exact otell_same ho

theorem aopC_noL {ev : Operand → AV} {op : Op} {q : FuncId × List AV} (hx : aopC P ev op = some q) : noLs q.2 = true := by
  cases op <;> simp only [aopC] at hx <;> try contradiction
  case call c =>
    split at hx
    · split at hx
      · split at hx
        · rename_i hh
          simp only [Bool.and_eq_true] at hh
          cases hx
          exact hh.2
        · cases hx
      · cases hx
    · cases hx

theorem keepsL_ok {L : List Nat} {h0 h h' : AHeap} (hk : keepsL L h h' = true) (hs : Subg (heldOf L h0).get h.get) : Subg (heldOf L h0).get h'.get := by
  intro l x hx
  have h1 := hs l x hx
  simp only [heldOf] at hx
  split at hx
  · rename_i hl
    obtain ⟨m, hm, hml⟩ := List.any_eq_true.1 hl
    have hml' : l = m := Nat.eq_of_beq_eq_true hml
    subst hml'
    have := List.all_eq_true.1 hk l hm
    rw [← beqOp_eq _ _ this]
    exact h1
  · cases hx
theorem heldOf_sub (L : List Nat) (h : AHeap) : Subg (heldOf L h).get h.get := by
  intro l x hx
  simp only [heldOf] at hx
  split at hx
  · exact hx
  · cases hx
theorem needAt_mem : ∀ (L : Locs) (q : Nat), needAt L q = [] ∨ ∃ p ∈ L, needAt L q = p.2
  | [], q => .inl rfl
  | (i, qs) :: rest, q => by
    simp only [needAt]
    split
    · exact .inr ⟨(i, qs), by simp, rfl⟩
    · rcases needAt_mem rest q with h | ⟨p, hp, h⟩
      · exact .inl h
      · exact .inr ⟨p, by simp [hp], h⟩
theorem kept_sub {L : Locs} {h0 h h' : AHeap} (hl : allLt L h.next = true) (hk : ∀ l, l < h.next → h'.get l = h.get l) (q : Nat) (hs : Subg (heldOf (needAt L q) h0).get h.get) : Subg (heldOf (needAt L q) h0).get h'.get := by
  intro l x hx
  have h1 := hs l x hx
  rw [hk l ?_]
  · exact h1
  · simp only [heldOf] at hx
    split at hx
    · rename_i hl'
      obtain ⟨m, hm, hml⟩ := List.any_eq_true.1 hl'
      have hml' : l = m := Nat.eq_of_beq_eq_true hml
      subst hml'
      rcases needAt_mem L q with hn | ⟨p, hp, hn⟩
      · rw [hn] at hm; cases hm
      · rw [hn] at hm
        have h2 := List.all_eq_true.1 hl p hp
        have h3 := List.all_eq_true.1 h2 l hm
        have h4 := Nat.le_of_ble_eq_true h3
        omega
    · cases hx
theorem holds_of {hm : Nat → AHeap} {s s' : AState} : ∀ {qs : List Nat}, (∀ q ∈ qs, Subg (hm q).get s.h.get → Subg (hm q).get s'.h.get) → holds hm qs s s'
  | [], _ => trivial
  | q :: qs, h => ⟨h q (by simp), holds_of fun p hp => h p (by simp [hp])⟩

theorem eDr_ok (hc : CallOK P call) {ops : List Oper} {keep : List Tmp} {e : AExit} {s' : AState} {h0 : AHeap} {L : Locs} {E : Need} : ∀ (ord : List (Nat × Nat)) (ok : Bool) (s : AState), eDr P n call ops h0 L E ord ok s = some (e, s') →
    (ok = true → ∀ q, Subg (heldOf (needAt L q) h0).get s.h.get) → ADr P n ops (Fin keep e s') (fun q => heldOf (needAt L q) h0) E ord s
  | [], ok, s, h, _ => by
    simp only [eDr, Option.some.injEq, Prod.mk.injEq] at h
    obtain ⟨rfl, rfl⟩ := h
    exact .same
  | (i, k) :: ord, ok, s, h, hok => by
    have put_h : ∀ (s : AState) (d : Option Tmp) (v : AV), (s.put d v).h = s.h := fun s d v => by cases d <;> rfl
    simp only [eDr] at h
    simp only [ADr]
    split at h
    · cases h
    rename_i o ho
    rw [ho]
    simp only [osome, ADr1]
    split at h
    · cases h
    · rename_i hg
      obtain ⟨hd, h1⟩ := eInto_ok h
      have h2 := eDr_ok (keep := keep) hc ord ok _ h1 (by rw [put_h]; exact hok)
      refine gval_ok hg ?_
      refine ⟨hd, ?_⟩
      match k with
      | 0 => exact h2
      | 1 => exact h2
      | k + 2 => exact ⟨holds_of fun q _ hs => by rw [put_h]; exact hs, h2⟩
    · rename_i hg
      refine gval_ok hg ?_
      match k, h with
      | 0, h =>
        show ALight P noHeap s.ev o.op _
        simp only at h
        unfold eLightB at h
        unfold ALight
        split at h
        · rename_i q hq
          rw [hq]
          split at h
          · rename_i v h1 hcall
            split at h
            · rename_i hnl
              obtain ⟨hd, h1⟩ := eInto_ok h
              refine ⟨v, fun hp => ?_, hd, eDr_ok hc ord ok _ h1 (by rw [put_h]; exact hok)⟩
              have h2 := (hc _ _ _ _ _ hcall).mono (R' := fun a _ => a = .ret v ∧ a.noL = true) fun a b hab => ⟨hab.1, by rw [hab.1]; exact hnl⟩
              exact ACall.frame (R := fun a => a = .ret v) (aopC_noL hq) (fun l => rfl) h2 hp
            · cases h
          · cases h
        · rename_i hq
          rw [hq]
          simp only
          split at h
          · rename_i v hv
            rw [hv]
            obtain ⟨hd, h1⟩ := eInto_ok h
            exact ⟨hd, eDr_ok hc ord ok _ h1 (by rw [put_h]; exact hok)⟩
          · cases h
      | 1, h =>
        simp only at h
        split at h
        · rename_i hk
          split at h
          · rename_i v hv
            obtain ⟨hd, h1⟩ := eInto_ok h
            refine ⟨?_, ?_⟩
            · simp only [Bool.or_eq_true] at hk
              rcases hk with hk | hk
              · exact hok hk i
              · exact keepsL_ok hk (heldOf_sub _ _)
            · rw [hv]
              exact ⟨hd, eDr_ok hc ord ok _ h1 (by rw [put_h]; exact hok)⟩
          · cases h
        · cases h
      | k + 2, h =>
        simp only at h
        refine eStep_ok hc h (fun hq out hout => ?_) (fun v s1 hp => ?_) fun kept s1 h1 hkept => ?_
        · simp only [Bool.or_eq_true] at hq
          rcases hq with hq | hq
          · exact quiet_ok hq hout
          · obtain ⟨q, hq⟩ := Option.isSome_iff_exists.1 hq
            rw [aopC_aop hq] at hout
            cases hout
            exact rfl
        · simp only [ePan, Option.some.injEq, Prod.mk.injEq] at hp
          obtain ⟨rfl, rfl⟩ := hp
          exact .same
        · split at h1
          · rename_i hh
            simp only [Bool.and_eq_true] at hh
            exact ⟨holds_of fun q _ hs => kept_sub hh.2 (hkept hh.1) q hs, eDr_ok hc ord ok _ h1 fun hk q => kept_sub hh.2 (hkept hh.1) q (hok hk q)⟩
          · split at h1
            · rename_i hh
              exact ⟨holds_of fun q hq hs => keepsL_ok (List.all_eq_true.1 hh q hq) hs, eDr_ok hc ord false _ h1 fun hk => (by cases hk)⟩
            · cases h1

theorem eTr_ok (hc : CallOK P call) {ops : List Oper} {Q : AExit → AState → Prop} {h0 : AHeap} {L : Locs} {E : Need} : ∀ (T : OT) (top ok : Bool) (s : AState) (outs : List AState), eTr P n call ops h0 L E T top ok s = some outs →
    (ok = true → ∀ q, Subg (heldOf (needAt L q) h0).get s.h.get) → (∀ o ∈ outs, Q .normal o) → ATr P n ops Q (fun q => heldOf (needAt L q) h0) E T top s
  | .done, true, ok, s, outs, h, _, hQ => by
    simp only [eTr, Option.some.injEq] at h
    subst h
    exact hQ s (by simp)
  | .done, false, ok, s, outs, h, _, hQ => trivial
  | .one i k rest, top, ok, s, outs, h, hok, hQ => by
    have put_h : ∀ (s : AState) (d : Option Tmp) (v : AV), (s.put d v).h = s.h := fun s d v => by cases d <;> rfl
    simp only [eTr] at h
    simp only [ATr]
    split at h
    · cases h
    rename_i o ho
    rw [ho]
    simp only [osome, ADr1]
    split at h
    · cases h
    · rename_i hg
      obtain ⟨hd, h1⟩ := eInto_ok h
      have h2 := eTr_ok hc rest true ok _ outs h1 (by rw [put_h]; exact hok) hQ
      refine gval_ok hg ?_
      refine ⟨hd, ?_⟩
      match k with
      | 0 => exact h2
      | 1 => exact h2
      | k + 2 => exact ⟨holds_of fun q _ hs => by rw [put_h]; exact hs, h2⟩
    · rename_i hg
      refine gval_ok hg ?_
      match k, h with
      | 0, h =>
        show ALight P noHeap s.ev o.op _
        simp only at h
        unfold eLightB at h
        unfold ALight
        split at h
        · rename_i q hq
          rw [hq]
          split at h
          · rename_i v h1 hcall
            split at h
            · rename_i hnl
              obtain ⟨hd, h1⟩ := eInto_ok h
              refine ⟨v, fun hp => ?_, hd, eTr_ok hc rest true ok _ outs h1 (by rw [put_h]; exact hok) hQ⟩
              have h2 := (hc _ _ _ _ _ hcall).mono (R' := fun a _ => a = .ret v ∧ a.noL = true) fun a b hab => ⟨hab.1, by rw [hab.1]; exact hnl⟩
              exact ACall.frame (R := fun a => a = .ret v) (aopC_noL hq) (fun l => rfl) h2 hp
            · cases h
          · cases h
        · rename_i hq
          rw [hq]
          simp only
          split at h
          · rename_i v hv
            rw [hv]
            obtain ⟨hd, h1⟩ := eInto_ok h
            exact ⟨hd, eTr_ok hc rest true ok _ outs h1 (by rw [put_h]; exact hok) hQ⟩
          · cases h
      | 1, h =>
        simp only at h
        split at h
        · rename_i hk
          split at h
          · rename_i v hv
            obtain ⟨hd, h1⟩ := eInto_ok h
            refine ⟨?_, ?_⟩
            · simp only [Bool.or_eq_true] at hk
              rcases hk with hk | hk
              · exact hok hk i
              · exact keepsL_ok hk (heldOf_sub _ _)
            · rw [hv]
              exact ⟨hd, eTr_ok hc rest true ok _ outs h1 (by rw [put_h]; exact hok) hQ⟩
          · cases h
        · cases h
      | k + 2, h =>
        simp only at h
        split at h
        · rename_i hk
          split at h
          · rename_i v hv
            obtain ⟨hd, h1⟩ := eInto_ok h
            have hsub : Subg (heldOf (needAt L i) h0).get s.h.get := by
              simp only [Bool.or_eq_true] at hk
              rcases hk with hk | hk
              · exact hok hk i
              · exact keepsL_ok hk (heldOf_sub _ _)
            show osome (aop P s.h s.ev o.op) _
            rw [aopL_aop hsub hv]
            exact ⟨hd, holds_of fun q _ hs => by rw [put_h]; exact hs, eTr_ok hc rest true ok _ outs h1 (by rw [put_h]; exact hok) hQ⟩
          · cases h
        · cases h
  | .alt i sub more, top, ok, s, outs, h, hok, hQ => by
    have put_h : ∀ (s : AState) (d : Option Tmp) (v : AV), (s.put d v).h = s.h := fun s d v => by cases d <;> rfl
    simp only [eTr] at h
    split at h
    · cases h
    rename_i b hb
    split at h
    · cases h
    rename_i o ho
    split at h
    · cases h
    rename_i a ha
    cases h
    refine ⟨?_, eTr_ok hc more false ok s b hb hok fun o ho => hQ o (List.mem_append_right _ ho)⟩
    have hQa : ∀ o ∈ a, Q .normal o := fun o ho => hQ o (List.mem_append_left _ ho)
    rw [ho]
    simp only [osome, ADr1]
    split at ha
    · cases ha
    · rename_i hg
      obtain ⟨hd, h1⟩ := eInto_ok ha
      exact gval_ok hg ⟨hd, holds_of fun q _ hs => by rw [put_h]; exact hs, eTr_ok hc sub true ok _ a h1 (by rw [put_h]; exact hok) hQa⟩
    · rename_i hg
      refine gval_ok hg ?_
      show osome (aop P s.h s.ev o.op) _
      refine eStep_ok hc ha (fun hq out hout => ?_) (fun v s1 hp => (by cases hp)) fun kept s1 h1 hkept => ?_
      · simp only [Bool.or_eq_true] at hq
        rcases hq with hq | hq
        · exact quiet_ok hq hout
        · obtain ⟨q, hq⟩ := Option.isSome_iff_exists.1 hq
          rw [aopC_aop hq] at hout
          cases hout
          exact rfl
      · split at h1
        · rename_i hh
          simp only [Bool.and_eq_true] at hh
          exact ⟨holds_of fun q _ hs => kept_sub hh.2 (hkept hh.1) q hs, eTr_ok hc sub true ok _ a h1 (fun hk q => kept_sub hh.2 (hkept hh.1) q (hok hk q)) hQa⟩
        · split at h1
          · rename_i hh
            exact ⟨holds_of fun q hq hs => keepsL_ok (List.all_eq_true.1 hh q hq) hs, eTr_ok hc sub true false _ a h1 (fun hk => (by cases hk)) hQa⟩
          · cases h1

theorem sameX_eq {e e' : AExit} (h : sameX e e' = true) : e = e' ∧ ∀ v, e ≠ .panic v := by
  cases e <;> cases e' <;> simp only [sameX] at h <;> try (cases h; done)
  · exact ⟨rfl, fun v h => (by cases h)⟩
  · exact ⟨by rw [Nat.eq_of_beq_eq_true h], fun v h => (by cases h)⟩
  · exact ⟨rfl, fun v h => (by cases h)⟩
theorem eMany_ok {k : AState → ER} : ∀ {outs : List AState} {e : AExit} {s' : AState}, eMany k outs = some (e, s') → ∀ o ∈ outs, ∃ so, k o = some (e, so) ∧ (s' = so ∨ ((∀ v, e ≠ .panic v) ∧ s'.sle so))
  | [], _, _, _, o, h => by cases h
  | [a], e, s', he, o, h => by
    simp only [List.mem_singleton] at h
    subst h
    exact ⟨s', he, .inl rfl⟩
  | a :: b :: os, e, s', he, o, h => by
    unfold eMany at he
    simp only at he
    split at he
    · cases he
    · rename_i e1 s1 h1
      split at he
      · cases he
      · rename_i e2 s2 h2
        split at he
        · rename_i hx
          split at he
          · rename_i j hj
            cases he
            obtain ⟨rfl, hnp⟩ := sameX_eq hx
            obtain ⟨l1, l2⟩ := ejoin_le hj
            rcases List.mem_cons.1 h with rfl | h
            · exact ⟨s1, h1, .inr ⟨hnp, .of_le l1⟩⟩
            · obtain ⟨so, h3, h4⟩ := eMany_ok h2 o h
              refine ⟨so, h3, .inr ⟨hnp, ?_⟩⟩
              rcases h4 with rfl | ⟨_, h4⟩
              · exact .of_le l2
              · exact fun K n a w R => (AState.sle.of_le l2) K n a w (h4 K n a w R)
          · cases he
        · cases he

/-! ### Code -/
theorem eThen_ok {r : ER} {next : AState → ER} {e : AExit} {s' : AState} (h : eThen r next = some (e, s')) : ∃ e1 s1, r = some (e1, s1) ∧ ((e1 = .normal ∧ next s1 = some (e, s')) ∨ (e1 ≠ .normal ∧ e1 = e ∧ s1 = s')) := by
  unfold eThen at h
  split at h
  · rename_i s1
    exact ⟨_, s1, rfl, .inl ⟨rfl, h⟩⟩
  · rename_i hne
    subst h
    refine ⟨e, s', rfl, .inr ⟨fun he => hne s' (by rw [he]), rfl, rfl⟩⟩

/-- As it ends, through a piece that goes on. -/
theorem Fin.go {keep : List Tmp} {e1 e : AExit} {s1 s' : AState} {next : AState → Prop} (h : (e1 = .normal ∧ next s1) ∨ (e1 ≠ .normal ∧ e1 = e ∧ s1 = s')) {x : AExit} {s : AState} (hx : Fin keep e1 s1 x s) : AExit.then next (Fin keep e s') x s := by
  obtain ⟨rfl, hs⟩ := hx
  rcases h with ⟨rfl, h⟩ | ⟨hn, rfl, rfl⟩
  · rcases hs with rfl | ⟨⟨v, hv⟩, _⟩
    · exact h
    · cases hv
  · have : AExit.then next (Fin keep x s1) x s = Fin keep x s1 x s := by
      cases x <;> first | rfl | exact absurd rfl hn
    rw [this]
    exact ⟨rfl, hs⟩

theorem Fin.qp {keep : List Tmp} {e : AExit} {s' : AState} {ops : Array Oper} (h : ∀ o ∈ ops, ∀ d, o.dst = some d → keep.contains d = false) : QP ops (Fin keep e s') := by
  rintro v s s1 hh hd ht ⟨rfl, hs⟩
  have hk : ∀ i, keep.contains i = true → s.t i = s1.t i := fun i hi => ht i fun o ho hoi => by
    rw [h o ho i hoi] at hi; cases hi
  refine ⟨rfl, .inr ⟨⟨v, rfl⟩, ?_⟩⟩
  rcases hs with rfl | ⟨_, h1, h2, h3⟩
  · exact ⟨hh.symm, hd.symm, fun i hi => (hk i hi).symm⟩
  · exact ⟨hh.symm.trans h1, hd.symm.trans h2, fun i hi => (hk i hi).symm.trans (h3 i hi)⟩

theorem least {p : Nat → Prop} (h : ∃ n, p n) : ∃ n, p n ∧ ∀ m, m < n → ¬ p m := by
  obtain ⟨n, hn⟩ := h
  induction n using Nat.strongRecOn with
  | _ n ih =>
    by_cases hm : ∃ m, m < n ∧ p m
    · obtain ⟨m, h1, h2⟩ := hm
      exact ih m h1 h2
    · exact ⟨n, hn, fun m h1 h2 => hm ⟨m, h1, h2⟩⟩
open Classical in
noncomputable def rank (p : Nat → Prop) : Nat := if h : ∃ n, p n then (least h).choose else 0
theorem rank_spec {p : Nat → Prop} (h : ∃ n, p n) : p (rank p) ∧ ∀ m, m < rank p → ¬ p m := by
  unfold rank
  rw [dif_pos h]
  exact (least h).choose_spec

/-! ### A map gone through -/
theorem ePicks_ok {dst : Option Tmp} {s : AState} {k : AState → Option (List AState)} : ∀ {opts : List (AV × AHeap)} {outs : List AState}, ePicks n dst s k opts = some outs → ∀ q ∈ opts, ∃ o, eInto n dst q.1 ⟨s.t, q.2, s.d⟩ k = some o ∧ ∀ x ∈ o, x ∈ outs
  | [], _, _, q, h => by cases h
  | p :: qs, outs, he, q, h => by
    simp only [ePicks] at he
    split at he
    · cases he
    · rename_i a ha
      split at he
      · cases he
      · rename_i b hb
        cases he
        rcases List.mem_cons.1 h with rfl | h
        · exact ⟨a, ha, fun x hx => List.mem_append_left _ hx⟩
        · obtain ⟨o, h1, h2⟩ := ePicks_ok hb q h
          exact ⟨o, h1, fun x hx => List.mem_append_right _ (h2 x hx)⟩
theorem ePick_ok (hc : CallOK P call) {ops : List Oper} {Q : AExit → AState → Prop} : ∀ (l : List Oper) (s : AState) (outs : List AState), ePick P n call ops l s = some outs → (∀ o ∈ outs, Q .normal o) → AOps P n ops.toArray Q l s
  | [], s, outs, h, hQ => by
    simp only [ePick, Option.some.injEq] at h
    subst h
    exact hQ s (by simp)
  | o :: rest, s, outs, h, hQ => by
    simp only [ePick] at h
    simp only [AOps]
    split at h
    · cases h
    · rename_i hg
      obtain ⟨hd, h1⟩ := eInto_ok h
      exact gval_ok hg ⟨hd, ePick_ok hc rest _ outs h1 hQ⟩
    · rename_i hg
      split at h
      · rename_i opts hop
        split at h
        case isFalse => cases h
        rename_i hd
        refine gval_ok hg ?_
        show osome (aop P s.h s.ev o.op) _
        rw [hop]
        refine ⟨hd, fun q hq => ?_⟩
        obtain ⟨o1, h1, h2⟩ := ePicks_ok h q hq
        obtain ⟨_, h3⟩ := eInto_ok h1
        exact ePick_ok hc rest _ o1 h3 fun x hx => hQ x (h2 x hx)
      · exact gval_ok hg (eStep_ok hc h (fun e => (by cases e)) (fun v s1 hp => (by cases hp)) fun kept s1 h1 _ => ePick_ok hc rest _ outs h1 hQ)
theorem eLoopP_ok {pl : Plan} {fuel : Nat} {keep : List Tmp} (hmix : P.follows .mixedOrders = true) (hc : CallOK P call) {a b : Code} (hb : ∀ (s : AState) (e : AExit) (s' : AState), eCode P n call pl fuel b s = some (e, s') → AWP P n b (Fin keep e s') s) (f0 : Nat) (s : AState) (e : AExit) (s' : AState)
    (h : eLoopP (eOutsP P n call a) (eCode P n call pl fuel b) f0 s = some (e, s')) : AWP P n (.loop (.seq a b)) (Fin keep e s') s := by
  let good : AState → Prop := fun s1 => s' = s1 ∨ ((∀ v, e ≠ .panic v) ∧ s'.sle s1)
  let p : AState → Nat → Prop := fun s f => ∃ s1, eLoopP (eOutsP P n call a) (eCode P n call pl fuel b) f s = some (e, s1) ∧ good s1
  refine AWP.post (AWP.loop (fun s => ∃ f, p s f) (fun s => rank (p s)) ⟨f0, s', h, .inl rfl⟩ fun s hs => ?_)
  obtain ⟨h1, h2⟩ := rank_spec hs
  generalize hr : rank (p s) = r at h1 h2
  cases r with
  | zero => obtain ⟨s1, h1, _⟩ := h1; cases h1
  | succ r =>
    obtain ⟨s1, h1, hg1⟩ := h1
    simp only [eLoopP] at h1
    split at h1
    · cases h1
    rename_i os hos
    have key : ∀ o ∈ os, AWP P n b (AExit.then (fun s' => ∃ s'', s''.le s' ∧ (∃ f, p s'' f) ∧ rank (p s'') < r + 1) fun x sx => ∃ s2, s2.sle sx ∧ Fin keep e s' x s2) o := by
      intro o ho
      obtain ⟨so, h3, h4⟩ := eMany_ok h1 o ho
      have hgo : good so := by
        rcases hg1 with rfl | ⟨n1, l1⟩ <;> rcases h4 with rfl | ⟨n2, l2⟩
        · exact .inl rfl
        · exact .inr ⟨n2, l2⟩
        · exact .inr ⟨n1, l1⟩
        · exact .inr ⟨n1, fun K m a w R => l1 K m a w (l2 K m a w R)⟩
      obtain ⟨e1, sb, h5, h6⟩ := eThen_ok h3
      refine (hb o e1 sb h5).mono fun x sx hf => ?_
      obtain ⟨rfl, hsx⟩ := hf
      rcases h6 with ⟨rfl, h6⟩ | ⟨hn, rfl, rfl⟩
      · have : sx = sb := by
          rcases hsx with h | ⟨⟨v, hv⟩, _⟩
          · exact h
          · cases hv
        subst this
        have hp : p sx r := ⟨so, h6, hgo⟩
        refine ⟨sx, AState.le_refl sx, ⟨r, hp⟩, ?_⟩
        obtain ⟨_, h7⟩ := rank_spec (p := p sx) ⟨r, hp⟩
        exact Nat.lt_of_not_le fun hle => h7 r (by omega) hp
      · have e2 : ∀ (N : AState → Prop) (R : AExit → AState → Prop), AExit.then N R x sx = R x sx := fun N R => by
          cases x <;> first | rfl | exact absurd rfl hn
        rw [e2]
        rcases hgo with rfl | ⟨np, l⟩
        · exact ⟨sx, .refl sx, rfl, hsx⟩
        · rcases hsx with rfl | ⟨⟨v, hv⟩, _⟩
          · exact ⟨s', l, .same⟩
          · exact absurd hv (np v)
    refine .seq ?_
    cases a with
    | region id ops d =>
      cases d with
      | true => simp only [eOutsP] at hos; cases hos
      | false =>
        simp only [eOutsP] at hos
        have h3 := ePick_ok hc (Q := fun x sx => x = .normal ∧ AWP P n b (AExit.then (fun s' => ∃ s'', s''.le s' ∧ (∃ f, p s'' f) ∧ rank (p s'') < r + 1) fun x sx => ∃ s2, s2.sle sx ∧ Fin keep e s' x s2) sx) ops.toList s os hos fun o ho => ⟨rfl, key o ho⟩
        refine (AWP.region (by simpa using h3)).mono fun x sx hx => ?_
        obtain ⟨rfl, hx⟩ := hx
        exact hx
    | _ => simp only [eOutsP] at hos; cases hos

theorem eCode_ok {pl : Plan} {fuel : Nat} {keep : List Tmp} (hmix : P.follows .mixedOrders = true) (hc : CallOK P call) : ∀ (c : Code), okCode keep pl c = true → ∀ (s : AState) (e : AExit) (s' : AState), eCode P n call pl fuel c s = some (e, s') → AWP P n c (Fin keep e s') s := by
  intro c
  induction hn : SizeOf.sizeOf c using Nat.strongRecOn generalizing c with
  | _ m ihm =>
  have ihs : ∀ c', SizeOf.sizeOf c' < SizeOf.sizeOf c → okCode keep pl c' = true → ∀ (s : AState) (e : AExit) (s' : AState), eCode P n call pl fuel c' s = some (e, s') → AWP P n c' (Fin keep e s') s := fun c' hlt => ihm (SizeOf.sizeOf c') (hn ▸ hlt) c' rfl
  clear ihm hn
  cases c with
  | skip =>
    intro _ s e s' h
    cases h
    exact .skip .same
  | region id ops d =>
    intro hok s e s' h
    cases d with
    | false => exact .region (by have := eOps_ok (keep := keep) hc ops.toList s h; simpa using this)
    | true =>
      simp only [eCode] at h
      simp only [okCode] at hok
      split at h
      · rename_i ord E hp
        rw [hp] at hok
        simp only [Bool.and_eq_true] at hok
        have h1 := eDr_ok (keep := keep) hc ord true s h fun _ q => heldOf_sub _ _
        have h2 : ADraw P n id ops.toList.toArray (Fin keep e s') s := by
          refine ADraw.of _ E ord hmix (by simpa using hok.1) (Fin.qp fun o ho d hd => ?_) h1
          have := List.all_eq_true.1 hok.2 o (by simpa using ho)
          rw [hd] at this
          simpa using this
        have h3 : ADraw P n id ops (Fin keep e s') s := by simpa using h2
        exact h3
      · cases h
  | seq a b =>
    have iha := ihs a (by simp only [Code.seq.sizeOf_spec]; omega)
    have ihb := ihs b (by simp only [Code.seq.sizeOf_spec]; omega)
    intro hok s e s' h
    simp only [okCode, Bool.and_eq_true] at hok
    simp only [eCode] at h
    split at h
    · rename_i hall
      split at h
      · rename_i outs ho
        have key : ∀ o ∈ outs, AWP P n b (Fin keep e s') o := fun o hoo => by
          obtain ⟨so, h1, h2⟩ := eMany_ok h o hoo
          have h3 := ihb hok.2 o e so h1
          rcases h2 with rfl | ⟨hnp, h2⟩
          · exact h3
          · refine AWP.post (h3.mono fun e1 s1 hf => ⟨s', ?_, ?_⟩)
            · obtain ⟨rfl, hs⟩ := hf
              rcases hs with rfl | ⟨⟨v, hv⟩, _⟩
              · exact h2
              · exact absurd hv (hnp v)
            · obtain ⟨rfl, _⟩ := hf
              exact .same
        cases a with
        | region id ops d =>
          cases d with
          | false => simp only [isAll] at hall; cases hall
          | true =>
            simp only [eOuts] at ho
            split at ho
            · rename_i T ord E hp
              have hns : okTr ops T E = true := by
                have := hok.1
                simp only [okCode, hp] at this
                exact this
              refine .seq ?_
              have h1 := eTr_ok hc (Q := fun x sx => x = .normal ∧ AWP P n b (Fin keep e s') sx) T true true s outs ho (fun _ q => heldOf_sub _ _) (fun o hoo => ⟨rfl, key o hoo⟩)
              have h2 := ATr.of (id := id) _ E T hmix (by simpa using hns) (fun v s s' _ _ _ hh => (by cases hh.1)) h1
              have h3 : AWP P n (.region id ops true) (fun x sx => x = .normal ∧ AWP P n b (Fin keep e s') sx) s := by simpa using h2
              refine h3.mono fun x sx hx => ?_
              obtain ⟨rfl, hx⟩ := hx
              exact hx
            · cases ho
        | _ => simp only [isAll] at hall; cases hall
      · cases h
    · obtain ⟨e1, s1, h1, h2⟩ := eThen_ok h
      refine .seq ((iha hok.1 s e1 s1 h1).mono fun x sx hf => ?_)
      refine Fin.go ?_ hf
      rcases h2 with ⟨rfl, h2⟩ | h2
      · exact .inl ⟨rfl, ihb hok.2 s1 e s' h2⟩
      · exact .inr h2
  | cond c x y =>
    have ihx := ihs x (by simp only [Code.cond.sizeOf_spec]; omega)
    have ihy := ihs y (by simp only [Code.cond.sizeOf_spec]; omega)
    intro hok s e s' h
    simp only [okCode, Bool.and_eq_true] at hok
    simp only [eCode] at h
    split at h
    · rename_i hb
      exact .cond hb (fun _ => ihx hok.1 s e s' h) (fun e => by cases e)
    · rename_i hb
      exact .cond hb (fun e => by cases e) (fun _ => ihy hok.2 s e s' h)
    · cases h
  | block id c =>
    have ih := ihs c (by simp only [Code.block.sizeOf_spec]; omega)
    intro hok s e s' h
    simp only [okCode] at hok
    simp only [eCode] at h
    refine .block ?_
    unfold eBlock at h
    split at h
    · rename_i i s1 h1
      split at h
      · rename_i hi
        cases h
        refine (ih hok s _ _ h1).mono fun x sx hf => ?_
        obtain ⟨rfl, hs⟩ := hf
        rcases hs with rfl | ⟨⟨v, hv⟩, _⟩
        · simp only [AExit.inBlock]
          rw [if_pos (Nat.eq_of_beq_eq_true hi)]
          exact .same
        · cases hv
      · rename_i hi
        rw [h1] at h
        cases h
        refine (ih hok s _ _ h1).mono fun x sx hf => ?_
        obtain ⟨rfl, hs⟩ := hf
        rcases hs with rfl | ⟨⟨v, hv⟩, _⟩
        · simp only [AExit.inBlock]
          rw [if_neg (fun e => hi (by rw [e]; exact Nat.beq_refl _))]
          exact .same
        · cases hv
    · rename_i hne
      refine (ih hok s _ _ h).mono fun x sx hf => ?_
      obtain ⟨rfl, hs⟩ := hf
      have : AExit.inBlock id (Fin keep x s') x sx = Fin keep x s' x sx := by
        cases x with
        | exit i => exact absurd h (by intro h; exact hne i s' h)
        | _ => rfl
      rw [this]
      exact ⟨rfl, hs⟩
  | loop c =>
    have ih := ihs c (by simp only [Code.loop.sizeOf_spec]; omega)
    intro hok s e s' h
    simp only [okCode] at hok
    have hor : eLoop (eCode P n call pl fuel c) fuel s = some (e, s') ∨ ∃ a b, c = .seq a b ∧ isPick a = true ∧ eLoopP (eOutsP P n call a) (eCode P n call pl fuel b) fuel s = some (e, s') := by
      cases c with
      | seq a b =>
        simp only [eCode] at h
        split at h
        · rename_i hp
          exact .inr ⟨a, b, rfl, hp, h⟩
        · exact .inl h
      | _ => exact .inl h
    clear h
    rcases hor with h | ⟨a, b, rfl, hpick, h⟩
    rotate_left
    · have hokb : okCode keep pl b = true := by simp only [okCode, Bool.and_eq_true] at hok; exact hok.2
      exact eLoopP_ok hmix hc (fun so eo so' ho => ihs b (by simp only [Code.loop.sizeOf_spec, Code.seq.sizeOf_spec]; omega) hokb so eo so' ho) fuel s e s' h
    refine AWP.loop (fun s => ∃ f, eLoop (eCode P n call pl fuel c) f s = some (e, s')) (fun s => rank fun f => eLoop (eCode P n call pl fuel c) f s = some (e, s')) ⟨fuel, h⟩ fun s hs => ?_
    obtain ⟨h1, h2⟩ := rank_spec hs
    generalize hr : rank (fun f => eLoop (eCode P n call pl fuel c) f s = some (e, s')) = r at h1 h2
    cases r with
    | zero => cases h1
    | succ r =>
      simp only [eLoop] at h1
      obtain ⟨e1, s1, h3, h4⟩ := eThen_ok h1
      refine (ih hok s e1 s1 h3).mono fun x sx hf => ?_
      refine Fin.go (s1 := s1) ?_ hf
      rcases h4 with ⟨rfl, h4⟩ | h4
      · refine .inl ⟨rfl, s1, AState.le_refl s1, ⟨r, h4⟩, ?_⟩
        obtain ⟨_, h6⟩ := rank_spec (p := fun f => eLoop (eCode P n call pl fuel c) f s1 = some (e, s')) ⟨r, h4⟩
        show rank (fun f => eLoop (eCode P n call pl fuel c) f s1 = some (e, s')) < r + 1
        refine Nat.lt_of_not_le fun hle => h6 r (by omega) h4
      · exact .inr h4
  | exit i =>
    intro _ s e s' h
    cases h
    exact .exit .same
  | scope c =>
    have ih := ihs c (by simp only [Code.scope.sizeOf_spec]; omega)
    intro hok s e s' h
    simp only [okCode] at hok
    simp only [eCode, eScope] at h
    refine .scope ?_
    split at h
    · cases h
    · rename_i hne
      refine (ih hok s _ _ h).mono fun x sx hf => ?_
      obtain ⟨rfl, hs⟩ := hf
      have : AExit.noGoto (Fin keep x s') x sx = Fin keep x s' x sx := by
        cases x with
        | goto i => exact absurd h (by intro h; exact hne i s' h)
        | _ => rfl
      rw [this]
      exact ⟨rfl, hs⟩
  | label l =>
    intro _ s e s' h
    cases h
    exact .label .same
  | ret =>
    intro _ s e s' h
    cases h
    exact .ret .same
  | rangeFunc f ps a b => exact fun _ s e s' h => by cases h
  | goto l => exact fun _ s e s' h => by cases h
  | refuse w => exact fun _ s e s' h => by cases h
end

end Go.Proofs.YtolacfnciaimhaaGreatDoor
