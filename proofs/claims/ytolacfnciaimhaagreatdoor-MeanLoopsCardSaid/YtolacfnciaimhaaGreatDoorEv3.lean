/- The machine's functions are right. -/
import Derived.Test.YtolacfnciaimhaaGreatDoorEv2
set_option linter.unusedVariables false
set_option linter.unusedSimpArgs false
namespace Go.Proofs.YtolacfnciaimhaaGreatDoor
open Go Go.RowKit

section
variable {P : Program} {n : Nat} {call : CallF}

theorem eOps_okQ (hc : CallOK P call) {ops : List Oper} {Q : AExit → AState → Prop} {e : AExit} {s' : AState} (hQ : Q e s') : ∀ (l : List Oper) (s : AState), eOps P n call ops l s = some (e, s') → AOps P n ops.toArray Q l s
  | [], s, h => by
    simp only [eOps, Option.some.injEq, Prod.mk.injEq] at h
    obtain ⟨rfl, rfl⟩ := h
    exact hQ
  | o :: rest, s, h => by
    simp only [eOps] at h
    simp only [AOps]
    split at h
    · cases h
    · rename_i hg
      obtain ⟨hd, h1⟩ := eInto_ok h
      exact gval_ok hg ⟨hd, eOps_okQ hc hQ rest _ h1⟩
    · rename_i hg
      refine gval_ok hg (eStep_ok hc h (fun e => (by cases e)) (fun v s1 hp => ?_) fun kept s1 h1 _ => eOps_okQ hc hQ rest _ h1)
      simp only [ePan, Option.some.injEq, Prod.mk.injEq] at hp
      obtain ⟨rfl, rfl⟩ := hp
      exact hQ

def TabOK (P : Program) (tab : FuncId → Option FInfo) : Prop := ∀ f fi, tab f = some fi → ∃ fn, P.funcs[f]? = some fn ∧ fn.body = some fi.body ∧ fn.ntmps = fi.n ∧ fn.results.toList = fi.rs ∧ okCode (fi.rs.filterMap cellTmp) fi.plan fi.body = true

theorem eRecov_ok (hmix : P.follows .mixedOrders = true) (hc : CallOK P call) {g : FuncId} {fi : FInfo} {fn : Func} {fuel : Nat} {keep : List Tmp} {args : List AV} {h : AHeap} {u : Option AV} {h' : AHeap}
    (hf : P.funcs[g]? = some fn) (hb : fn.body = some fi.body) (hm : fn.ntmps = fi.n) (hrs : fn.results.toList = []) (hok : okCode keep fi.plan fi.body = true)
    (hx : eRecov P fi call fuel args h u = some h') : ADef P g args h u fun a => a = h' := by
  unfold eRecov at hx
  split at hx
  case isFalse => cases hx
  rename_i hlen
  split at hx
  case h_2 => cases hx
  rename_i id ops rest hbody
  split at hx
  case h_2 => cases hx
  rename_i d0 ts ty pos after l hops
  split at hx
  · cases hx
  rename_i hd0
  have hops' : ops = (⟨some d0, .call ⟨.builtin .recover, ⟨[]⟩, ts⟩, ty, pos, after, none⟩ :: l : List Oper).toArray := by rw [← hops]
  have hres : fn.results = #[] := by rw [← Array.toArray_toList (xs := fn.results), hrs]
  rw [hbody] at hok
  simp only [okCode, Bool.and_eq_true] at hok
  have fin : ∀ e s, eThen (eOps P fi.n call ops.toList l ⟨upd (entry 0 args) d0 (u.getD .nili), h, []⟩) (eCode P fi.n call fi.plan fuel rest) = some (e, s) → (e = .normal ∨ e = .ret) → s.d = [] → s.h = h' → ADef P g args h u fun a => a = h' := by
    intro e s hr he hd hh
    obtain ⟨e1, s1, h1, h2⟩ := eThen_ok hr
    refine ADef.of_body hf (by rw [hb, hbody, hops']) hm (Nat.le_of_ble_eq_true hlen) hres rfl rfl rfl (Nat.lt_of_not_le fun hh => hd0 (Nat.ble_eq_true_of_le hh)) ?_
    have hfin : ∀ (x : AExit) (sx : AState), (x = .normal ∨ x = .ret) → sx = s → AFinU (fun a => a = h') x sx := by
      rintro x sx hx rfl
      rcases hx with rfl | rfl <;> exact ⟨hd, hh⟩
    have := eOps_okQ (n := fi.n) hc (Q := AExit.then (AWP P fi.n rest (AFinU fun a => a = h')) (AFinU fun a => a = h')) (e := e1) (s' := s1) ?_ l _ h1
    · rw [hops] at this; exact this
    · rcases h2 with ⟨rfl, h2⟩ | ⟨hn, rfl, rfl⟩
      · refine (eCode_ok (keep := keep) hmix hc rest hok.2 s1 e s h2).mono fun x sx hf => ?_
        obtain ⟨rfl, hs⟩ := hf
        rcases hs with rfl | ⟨⟨v, hv⟩, _⟩
        · exact hfin _ _ he rfl
        · subst hv; rcases he with he | he <;> cases he
      · rcases he with rfl | rfl
        · exact absurd rfl hn
        · exact hfin _ _ (.inr rfl) rfl
  split at hx
  · rename_i s hr
    split at hx
    · rename_i hd
      cases hx
      exact fin _ _ hr (.inl rfl) hd rfl
    · cases hx
  · rename_i s hr
    split at hx
    · rename_i hd
      cases hx
      exact fin _ _ hr (.inr rfl) hd rfl
    · cases hx
  · cases hx

theorem ares_t {rs : List ResultVar} {s s' : AState} (ht : ∀ i, (rs.filterMap cellTmp).contains i = true → s.t i = s'.t i) (hh : s.h = s'.h) (hall : (rs.all fun r => (cellTmp r).isSome) = true) : ares P rs s = ares P rs s' := by
  have key : ∀ rs : List ResultVar, (∀ i, (rs.filterMap cellTmp).contains i = true → s.t i = s'.t i) → (rs.all fun r => (cellTmp r).isSome) = true → aresl P s rs = aresl P s' rs := by
    intro rs
    induction rs with
    | nil => exact fun _ _ => rfl
    | cons r rs ih =>
      intro ht hall
      simp only [List.all_cons, Bool.and_eq_true] at hall
      cases r with
      | tmp t => simp [cellTmp] at hall
      | cell a t =>
        have h1 : s.t a = s'.t a := ht a (by simp [cellTmp])
        have h2 := ih (fun i hi => ht i (by simp only [List.filterMap_cons, cellTmp, List.contains_cons]; rw [hi, Bool.or_true])) hall.2
        simp only [aresl, ares1, h1, h2, hh]
  unfold ares
  rw [key rs ht hall, hh]

theorem eFun_ok (hmix : P.follows .mixedOrders = true) {tab : FuncId → Option FInfo} {lib : CallF → CallF} (ht : TabOK P tab) (hl : ∀ call, CallOK P call → CallOK P (lib call)) (fuel : Nat) : ∀ k, CallOK P (eFun P tab lib fuel k)
  | 0, f, args, h, r, h', hx => by cases hx
  | k + 1, f, args, h, r, h', hx => by
    have hc := eFun_ok hmix ht hl fuel k
    simp only [eFun] at hx
    split at hx
    · rename_i r0 hlib
      cases hx
      exact hl _ hc f args h r h' hlib
    split at hx
    · cases hx
    rename_i fi hfi
    obtain ⟨fn, hf, hb, hm, hrs, hok⟩ := ht f fi hfi
    split at hx
    case isFalse => cases hx
    rename_i hlen
    have hlen' := Nat.le_of_ble_eq_true hlen
    -- how the body ends, and what comes of it
    have main : ∀ (x : AExit) (s : AState) (u : Option AV), eCode P fi.n (eFun P tab lib fuel k) fi.plan fuel fi.body ⟨entry 0 args, h, []⟩ = some (x, s) →
        ((x = .normal ∨ x = .ret) ∧ u = none ∨ ∃ v, x = .panic v ∧ u = some v) → eLeave P tab (eFun P tab lib fuel k) fuel fi.rs u s = some (r, h') → ACall P f args h fun a b => a = r ∧ b = h' := by
      intro x s u hcode hxu hleave
      have hw := eCode_ok (keep := fi.rs.filterMap cellTmp) hmix hc fi.body hok _ _ _ hcode
      unfold eLeave at hleave
      split at hleave
      · rename_i hd
        refine ACall.of_body hf hb hm hlen' hrs (hw.mono fun e1 s1 hfin => ?_)
        obtain ⟨rfl, hs⟩ := hfin
        rcases hxu with ⟨hxn, rfl⟩ | ⟨v, rfl, rfl⟩
        · have hs1 : s1 = s := by
            rcases hs with rfl | ⟨⟨v, hv⟩, _⟩
            · rfl
            · subst hv; rcases hxn with h | h <;> cases h
          subst hs1
          simp only [eEnd] at hleave
          split at hleave
          · rename_i v h2 hr
            cases hleave
            rcases hxn with rfl | rfl
            · exact AFin.end_of hr hd ⟨rfl, rfl⟩
            · exact AFin.ret_of hr hd ⟨rfl, rfl⟩
          · cases hleave
        · simp only [Option.some.injEq, Prod.mk.injEq] at hleave
          obtain ⟨rfl, rfl⟩ := hleave
          rcases hs with rfl | ⟨_, h1, h2, _⟩
          · exact ⟨hd, _, AHeap.le_refl _, rfl, rfl⟩
          · exact ⟨h2.trans hd, s.h, by rw [h1]; exact AHeap.le_refl _, rfl, rfl⟩
      · rename_i g az hd
        split at hleave
        case isFalse => cases hleave
        rename_i hcg
        simp only [Bool.and_eq_true, Bool.or_eq_true] at hcg
        split at hleave
        case h_2 => cases hleave
        rename_i gi hgi
        split at hleave
        case h_2 => cases hleave
        rename_i hgrs
        split at hleave
        case h_2 => cases hleave
        rename_i h2 hrec
        obtain ⟨gn, hgf, hgb, hgm, hgr, hgok⟩ := ht g gi hgi
        have hdef := eRecov_ok hmix hc hgf hgb hgm (hgr.trans hgrs) hgok hrec
        refine ACall.of_body_defer hf hb hm hlen' hrs (hw.mono fun e1 s1 hfin => ?_)
        obtain ⟨rfl, hs⟩ := hfin
        simp only [eEnd] at hleave
        split at hleave
        case h_2 => cases hleave
        rename_i v h3 hr
        cases hleave
        have hend : ∀ s2 : AState, s2.h = s.h → s2.d = s.d → ares P fi.rs { s2 with h := h2 } = ares P fi.rs ⟨s.t, h2, s.d⟩ →
            ADef P g az s2.h u fun ha => ∃ v1 h1, ares P fi.rs { s2 with h := ha } = some (v1, h1) ∧ ∃ v' h'', le2 v' v1 ∧ h''.le h1 ∧ (ARes.ret v' = ARes.ret v ∧ h'' = h') := by
          intro s2 hh hd2 hares K w vs um H hv hum
          rw [hh] at H
          refine (hdef K w vs um H hv hum).mono fun e u' w' ⟨h1, h4, K', hx, h5, h6, h7, h8⟩ => ⟨h1, h4, K', hx, h5, h6, h7, v, h', ?_, v, h', le2.refl v, AHeap.le_refl h', rfl, rfl⟩
          rw [h8, hares]
          exact hr
        rcases hxu with ⟨hxn, rfl⟩ | ⟨v0, rfl, rfl⟩
        · have hs1 : s1 = s := by
            rcases hs with rfl | ⟨⟨v, hv⟩, _⟩
            · rfl
            · subst hv; rcases hxn with h | h <;> cases h
          subst hs1
          rcases hxn with rfl | rfl
          · exact ⟨g, az, hd, hcg.1, hend s1 rfl rfl rfl⟩
          · exact ⟨g, az, hd, hcg.1, hend s1 rfl rfl rfl⟩
        · rcases hs with rfl | ⟨_, h1, h2', h3'⟩
          · exact ⟨g, az, hd, hcg.1, hend s1 rfl rfl rfl⟩
          · refine ⟨g, az, h2'.trans hd, hcg.1, hend s1 h1 h2' ?_⟩
            have hall : (fi.rs.all fun r => (cellTmp r).isSome) = true := by
              rcases hcg.2 with h | h
              · simp at h
              · exact h
            exact ares_t h3' rfl hall
      · cases hleave
    split at hx
    · rename_i s hcode
      exact main _ s none hcode (.inl ⟨.inl rfl, rfl⟩) hx
    · rename_i s hcode
      exact main _ s none hcode (.inl ⟨.inr rfl, rfl⟩) hx
    · rename_i v s hcode
      exact main _ s (some v) hcode (.inr ⟨v, rfl, rfl⟩) hx
    · cases hx
end

/-! ### The table -/
def planOfF : List (Nat × Plan) → Nat → Option Plan
  | [], _ => none
  | (i, o) :: rest, f => if Nat.beq i f then some o else planOfF rest f
def tabOf (P : Program) (plans : List (Nat × Plan)) : FuncId → Option FInfo := fun f => match planOfF plans f with
  | none => none
  | some pl => match P.funcs[f]? with
    | none => none
    | some fn => match fn.body with
      | none => none
      | some c => some ⟨fn.ntmps, fn.results.toList, c, pl⟩
/-- One function's orders. -/
def okPlan (P : Program) (p : Nat × Plan) : Bool := match P.funcs[p.1]? with
  | none => true
  | some fn => match fn.body with
    | none => true
    | some c => okCode (fn.results.toList.filterMap cellTmp) p.2 c
theorem planOfF_mem : ∀ {plans : List (Nat × Plan)} {f : Nat} {pl : Plan}, planOfF plans f = some pl → (f, pl) ∈ plans
  | [], _, _, h => by cases h
  | (i, o) :: rest, f, pl, h => by
    simp only [planOfF] at h
    split at h
    · rename_i hi
      cases h
      rw [Nat.eq_of_beq_eq_true hi]
      simp
    · exact List.mem_cons_of_mem _ (planOfF_mem h)
theorem tabOf_ok {P : Program} {plans : List (Nat × Plan)} (h : ∀ p ∈ plans, okPlan P p = true) : TabOK P (tabOf P plans) := by
  intro f fi hf
  unfold tabOf at hf
  split at hf
  · cases hf
  rename_i pl hpl
  have hok := h _ (planOfF_mem hpl)
  unfold okPlan at hok
  split at hf
  · cases hf
  rename_i fn hfn
  rw [hfn] at hok
  simp only at hok
  split at hf
  · cases hf
  rename_i c hc
  rw [hc] at hok
  cases hf
  exact ⟨fn, hfn, hc, rfl, rfl, hok⟩

end Go.Proofs.YtolacfnciaimhaaGreatDoor
