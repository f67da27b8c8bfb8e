/- Bounds may be widened, wherever the number stands. -/
import Derived.Test.YtolacfnciaimhaaGreatDoorSym
set_option linter.unusedVariables false
set_option linter.unusedSimpArgs false
namespace Go.Proofs.YtolacfnciaimhaaGreatDoor
open Go Go.RowKit

mutual
/-- The first says no more than the second. -/
def wkV : AV → AV → Bool
  | .isym k e lo hi, y => match y with
    | .isym k' e' lo' hi' => decide (k = k') && Nat.beq e e' && decide (lo ≤ lo') && decide (hi' ≤ hi)
    | _ => false
  | .agg xs, y => match y with
    | .agg ys => wks xs ys
    | _ => false
  | .tuple xs, y => match y with
    | .tuple ys => wks xs ys
    | _ => false
  | .slice sz rs, y => match y with
    | .slice sz' rs' => Nat.beq sz sz' && wkss rs rs'
    | _ => false
  | .fslice sz rs, y => match y with
    | .fslice sz' rs' => Nat.beq sz sz' && wkss rs rs'
    | _ => false
  | x, y => beqV x y
def wks : List AV → List AV → Bool
  | [], y => match y with | [] => true | _ => false
  | x :: xs, y => match y with | y :: ys => wkV x y && wks xs ys | [] => false
def wkss : List (List AV) → List (List AV) → Bool
  | [], y => match y with | [] => true | _ => false
  | x :: xs, y => match y with | y :: ys => wks x y && wkss xs ys | [] => false
end
def Wk (K : KW) (x y : AV) : Prop := ∀ v, VR K y v → VR K x v
def Wks (K : KW) (xs ys : List AV) : Prop := xs.length = ys.length ∧ ∀ (i : Nat) x y, xs[i]? = some x → ys[i]? = some y → Wk K x y
theorem Wks.append {K : KW} {a b c d : List AV} (h : Wks K a b) (k : Wks K c d) : Wks K (a ++ c) (b ++ d) := by
  refine ⟨by simp [h.1, k.1], fun i x y ex ey => ?_⟩
  by_cases hi : i < a.length
  · rw [List.getElem?_append_left hi] at ex
    rw [List.getElem?_append_left (by rw [← h.1]; exact hi)] at ey
    exact h.2 i x y ex ey
  · rw [List.getElem?_append_right (by omega)] at ex
    rw [List.getElem?_append_right (by rw [← h.1]; omega), ← h.1] at ey
    exact k.2 _ x y ex ey
def Wkss (K : KW) (xs ys : List (List AV)) : Prop := xs.length = ys.length ∧ (∀ (i : Nat) x y, xs[i]? = some x → ys[i]? = some y → x.length = y.length) ∧ Wks K xs.flatten ys.flatten
theorem Wks.agg {K : KW} {xs ys : List AV} (h : Wks K xs ys) : Wk K (.agg xs) (.agg ys) := fun v hv => by
  cases hv with
  | agg _ cs hn h1 hv =>
    refine .agg xs cs (by rw [h.1]; exact hn) (fun i hi => h1 i (by rw [← h.1]; exact hi)) fun i x e => ?_
    have hi : i < ys.length := by rw [← h.1]; exact (List.getElem?_eq_some_iff.1 e).1
    exact h.2 i x _ e (List.getElem?_eq_getElem hi) _ (hv i _ (List.getElem?_eq_getElem hi))
theorem Wks.tuple {K : KW} {xs ys : List AV} (h : Wks K xs ys) : Wk K (.tuple xs) (.tuple ys) := fun v hv => by
  cases hv with
  | tuple _ cs hn hv =>
    refine .tuple xs cs (by rw [h.1]; exact hn) fun i x e => ?_
    have hi : i < ys.length := by rw [← h.1]; exact (List.getElem?_eq_some_iff.1 e).1
    exact h.2 i x _ e (List.getElem?_eq_getElem hi) _ (hv i _ (List.getElem?_eq_getElem hi))
theorem Wkss.slice {K : KW} {sz : Nat} {xs ys : List (List AV)} (h : Wkss K xs ys) : Wk K (.slice sz xs) (.slice sz ys) := fun v hv => by
  obtain ⟨hl, hr, hf⟩ := h
  cases hv with
  | slice0 _ a cap =>
    have : xs = [] := List.eq_nil_of_length_eq_zero (by simpa using hl)
    subst this
    exact .slice0 _ _ _
  | slice _ _ b o cap c e fr g hb hsz hc h1 hv hn hcap =>
    have e1 : xs.length = ys.length := hl
    have := VR.slice (K := K) sz xs b o cap c e fr g hb (fun r hrm => ?_) (fun k hk => hc k (by rw [← hf.1]; exact hk)) (fun k hk => h1 k (by rw [← hf.1]; exact hk)) (fun k x ex => ?_) (by omega) (by omega)
    · rw [e1] at this; exact this
    · obtain ⟨i, hi⟩ := List.getElem?_of_mem hrm
      have hil : i < ys.length := by rw [← hl]; exact (List.getElem?_eq_some_iff.1 hi).1
      rw [hr i r _ hi (List.getElem?_eq_getElem hil)]
      exact hsz _ (List.getElem_mem _)
    · have hkl : k < ys.flatten.length := by rw [← hf.1]; exact (List.getElem?_eq_some_iff.1 ex).1
      exact hf.2 k x _ ex (List.getElem?_eq_getElem hkl) _ (hv k _ (List.getElem?_eq_getElem hkl))
theorem Wkss.fslice {K : KW} {sz : Nat} {xs ys : List (List AV)} (h : Wkss K xs ys) : Wk K (.fslice sz xs) (.fslice sz ys) := fun v hv => by
  cases hv with
  | fslice _ _ a hs =>
    have h2 := h.slice (sz := sz) _ hs
    rw [← h.1] at h2
    have := VR.fslice (K := K) sz xs a h2
    rw [h.1] at this
    exact this
theorem beqV_wk {K : KW} {x y : AV} (h : beqV x y = true) : Wk K x y := by
  rw [beqV_eq _ _ h]; exact fun v hv => hv
mutual
theorem wkV_ok (K : KW) : ∀ (x y : AV), wkV x y = true → Wk K x y
  | .isym k e lo hi, y, h => by
    cases y <;> simp only [wkV] at h <;> try (cases h; done)
    simp only [Bool.and_eq_true, decide_eq_true_eq] at h
    obtain ⟨⟨⟨rfl, he⟩, hlo⟩, hhi⟩ := h
    have := Nat.eq_of_beq_eq_true he
    subst this
    intro v hv
    cases hv with
    | isym _ _ _ _ n h1 h2 h3 => exact .isym _ _ _ _ n h1 (by omega) (by omega)
  | .agg xs, y, h => by
    cases y <;> simp only [wkV] at h <;> try (cases h; done)
    exact (wks_ok K _ _ h).agg
  | .tuple xs, y, h => by
    cases y <;> simp only [wkV] at h <;> try (cases h; done)
    exact (wks_ok K _ _ h).tuple
  | .slice sz rs, y, h => by
    cases y <;> simp only [wkV] at h <;> try (cases h; done)
    rw [Bool.and_eq_true] at h
    have := Nat.eq_of_beq_eq_true h.1
    subst this
    exact (wkss_ok K _ _ h.2).slice
  | .fslice sz rs, y, h => by
    cases y <;> simp only [wkV] at h <;> try (cases h; done)
    rw [Bool.and_eq_true] at h
    have := Nat.eq_of_beq_eq_true h.1
    subst this
    exact (wkss_ok K _ _ h.2).fslice
  | .undef, y, h => beqV_wk (by simpa only [wkV] using h)
  | .bool b, y, h => beqV_wk (by simpa only [wkV] using h)
  | .int k n, y, h => beqV_wk (by simpa only [wkV] using h)
  | .str s, y, h => beqV_wk (by simpa only [wkV] using h)
  | .nilp, y, h => beqV_wk (by simpa only [wkV] using h)
  | .ptr l o, y, h => beqV_wk (by simpa only [wkV] using h)
  | .eptr a b c d, y, h => beqV_wk (by simpa only [wkV] using h)
  | .vptr r o, y, h => beqV_wk (by simpa only [wkV] using h)
  | .nils, y, h => beqV_wk (by simpa only [wkV] using h)
  | .rslice l n, y, h => beqV_wk (by simpa only [wkV] using h)
  | .fn f a b, y, h => beqV_wk (by simpa only [wkV] using h)
  | .nilfn, y, h => beqV_wk (by simpa only [wkV] using h)
  | .iface t v, y, h => beqV_wk (by simpa only [wkV] using h)
  | .nili, y, h => beqV_wk (by simpa only [wkV] using h)
  | .nilm, y, h => beqV_wk (by simpa only [wkV] using h)
  | .map l, y, h => beqV_wk (by simpa only [wkV] using h)
  | .irng k lo hi, y, h => beqV_wk (by simpa only [wkV] using h)
  | .ssym c e lo hi, y, h => beqV_wk (by simpa only [wkV] using h)
  | .ilin e c, y, h => beqV_wk (by simpa only [wkV] using h)
theorem wks_ok (K : KW) : ∀ (xs ys : List AV), wks xs ys = true → Wks K xs ys
  | [], ys, h => by
    cases ys with
    | nil => exact ⟨rfl, fun i x y e => by simp at e⟩
    | cons y ys => simp only [wks] at h; cases h
  | x :: xs, ys, h => by
    cases ys with
    | nil => simp only [wks] at h; cases h
    | cons y ys =>
      simp only [wks, Bool.and_eq_true] at h
      have h1 := wkV_ok K x y h.1
      obtain ⟨h2, h3⟩ := wks_ok K xs ys h.2
      refine ⟨by simp [h2], fun i a b ea eb => ?_⟩
      cases i with
      | zero =>
        rw [List.getElem?_cons_zero, Option.some.injEq] at ea eb
        subst ea; subst eb
        exact h1
      | succ i =>
        rw [List.getElem?_cons_succ] at ea eb
        exact h3 i a b ea eb
theorem wkss_ok (K : KW) : ∀ (xs ys : List (List AV)), wkss xs ys = true → Wkss K xs ys
  | [], ys, h => by
    cases ys with
    | nil => exact ⟨rfl, fun i x y e => (by simp at e), rfl, fun i x y e => by simp at e⟩
    | cons y ys => simp only [wkss] at h; cases h
  | x :: xs, ys, h => by
    cases ys with
    | nil => simp only [wkss] at h; cases h
    | cons y ys =>
      simp only [wkss, Bool.and_eq_true] at h
      have h1 := wks_ok K x y h.1
      obtain ⟨h2, h3, h4⟩ := wkss_ok K xs ys h.2
      refine ⟨by simp [h2], fun i a b ea eb => ?_, ?_⟩
      · cases i with
        | zero =>
          rw [List.getElem?_cons_zero, Option.some.injEq] at ea eb
          subst ea; subst eb
          exact h1.1
        | succ i =>
          rw [List.getElem?_cons_succ] at ea eb
          exact h3 i a b ea eb
      · rw [List.flatten_cons, List.flatten_cons]
        exact h1.append h4
end
/-- A contract holds where more is known. -/
theorem ACall.wk {P : Program} {f : FuncId} {wide args : List AV} {h : AHeap} {R : ARes → AHeap → Prop} (hc : ACall P f wide h R) (hw : wks wide args = true) : ACall P f args h R := fun K w vs H hv => by
  refine hc K w vs H ?_
  obtain ⟨h1, h2⟩ := wks_ok K _ _ hw
  refine ⟨by rw [h1]; exact hv.1, fun i x e => ?_⟩
  have hi : i < args.length := by rw [← h1]; exact (List.getElem?_eq_some_iff.1 e).1
  exact h2 i x _ e (List.getElem?_eq_getElem hi) _ (hv.2 i _ (List.getElem?_eq_getElem hi))

end Go.Proofs.YtolacfnciaimhaaGreatDoor
