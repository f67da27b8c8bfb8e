/- The abstract heap's steps, and the world's: a new block, a changed one, an array that goes on, one that never changes any more. -/
import Derived.Test.YtolacfnciaimhaaGreatDoorAw1
import Derived.Laws.CopyRow
set_option linter.unusedVariables false
set_option linter.unusedSimpArgs false
namespace Go.Proofs.YtolacfnciaimhaaGreatDoor
open Go Go.RowKit

theorem updg_same (g : Nat → Option AObj) (l : Nat) (o : Option AObj) : updg g l o l = o := by simp [updg]
theorem updg_other (g : Nat → Option AObj) (l i : Nat) (o : Option AObj) (h : i ≠ l) : updg g l o i = g i := by simp [updg, h]

def KW.put (K : KW) (l : Nat) (p : Option (Nat × Nat)) : KW := { K with loc := fun i => if i = l then some p else K.loc i }
theorem KW.le_put {K : KW} {l : Nat} (h : K.loc l = none) (p : Option (Nat × Nat)) : K.le (K.put l p) :=
  ⟨fun _ _ e => e, fun i x e => by
    simp only [KW.put]
    split
    · rename_i hi; subst hi; rw [h] at e; cases e
    · exact e, rfl, rfl⟩
theorem KW.put_same (K : KW) (l : Nat) (p : Option (Nat × Nat)) : (K.put l p).loc l = some p := by simp [KW.put]
theorem KW.put_other (K : KW) {l i : Nat} (p : Option (Nat × Nat)) (h : i ≠ l) : (K.put l p).loc i = K.loc i := by simp [KW.put, h]
theorem KW.put_fix (K : KW) (l : Nat) (p : Option (Nat × Nat)) : (K.put l p).fix = K.fix := rfl

theorem heap_alloc_old {w : World} {o : Obj} {b : Nat} (h : b < w.heap.size) : (w.alloc o).heap[b]? = w.heap[b]? := by
  show (w.heap.push o)[b]? = _
  simp [Array.getElem?_push, Nat.ne_of_lt h]
theorem heap_alloc_at (w : World) (o : Obj) : (w.alloc o).heap[w.heap.size]? = some o := by
  show (w.heap.push o)[w.heap.size]? = _
  simp
theorem heap_lt {w : World} {b : Nat} {o : Obj} (h : w.heap[b]? = some o) : b < w.heap.size := (Array.getElem?_eq_some_iff.1 h).1

/-- What a map goes by lies where it lay. -/
theorem HRel.miter_at {K : KW} {h : AHeap} {w : World} (H : HRel K h w) {l m : Nat} {seen : List (List UInt8)} (hl : h.get l = some (.miter m seen)) : m < h.next := by
  obtain ⟨b, o, bm, om, since, sn, last, _, _, h3⟩ := H.obj l _ hl
  rcases Nat.lt_or_ge m h.next with h1 | h1
  · exact h1
  · rw [H.fresh m h1] at h3; cases h3
/-- A new block, and a new name for it. -/
theorem HRel.new {K : KW} {h : AHeap} {w : World} (H : HRel K h w) (o : Obj) (x : AObj) (off : Nat)
    (hx : ORel (K.put h.next (some (w.heap.size, off))) x h.next (w.alloc o))
    (hit : ∀ m seen es q, x = .miter m seen → h.get m = some (.map es) → K.loc m = some (some q) → IRel seen w.heap.size q.1 (w.alloc o) := by intro _ _ _ _ hh; cases hh) :
    HRel (K.put h.next (some (w.heap.size, off))) ⟨h.next + 1, updg h.get h.next (some x)⟩ (w.alloc o) := by
  have hle : K.le (K.put h.next (some (w.heap.size, off))) := KW.le_put (H.fresh _ (Nat.le_refl _)) _
  have old : ∀ {l : Nat} {y : AObj} {p : Nat × Nat}, h.get l = some y → K.loc l = some (some p) → p.1 < w.heap.size := fun hy hp => (H.obj _ _ hy).block hp
  refine ⟨fun b o' hb => ?_, fun l y hy => ?_, fun l l' y y' p p' hy hy' lv lv' hne hp hp' => ?_, fun l y p hy lv hp => ?_, fun l hl => ?_, fun b o' hb => ?_, fun l m seen es p q e1 e2 e3 e4 => ?_⟩
  rotate_right
  · have hm : m ≠ h.next → h.get m = some (.map es) ∧ K.loc m = some (some q) := fun hm => ⟨by simpa [updg, hm] using e2, by rwa [KW.put_other K _ hm] at e4⟩
    by_cases hl : l = h.next
    · subst hl
      simp only [updg, if_true, Option.some.injEq] at e1
      rw [KW.put_same] at e3
      cases e3
      by_cases hmn : m = h.next
      · subst hmn
        simp only [updg, if_true, Option.some.injEq] at e2
        rw [e1] at e2; cases e2
      · exact hit m seen es q e1 (hm hmn).1 (hm hmn).2
    · simp only [updg, hl, if_false] at e1
      rw [KW.put_other K _ hl] at e3
      have hmn : m ≠ h.next := Nat.ne_of_lt (H.miter_at e1)
      obtain ⟨e2, e4⟩ := hm hmn
      exact (H.iter l m seen es p q e1 e2 e3 e4).keep (heap_alloc_old (old e1 e3)) (heap_alloc_old (old e2 e4))
  · have := H.fix b o' hb
    rw [heap_alloc_old (heap_lt this)]; exact this
  · by_cases hl : l = h.next
    · subst hl
      simp only [updg, if_true, Option.some.injEq] at hy
      subst hy; exact hx
    · simp only [updg, hl, if_false] at hy
      exact (H.obj l y hy).keep hle fun p hp => heap_alloc_old (old hy hp)
  · by_cases hl : l = h.next
    · subst hl
      have hl' : l' ≠ h.next := fun e => hne e.symm
      simp only [updg, hl', if_false] at hy'
      rw [KW.put_other K _ hl'] at hp'
      rw [KW.put_same] at hp
      have := old hy' hp'
      simp only [Option.some.injEq] at hp
      subst hp
      simp only; omega
    · simp only [updg, hl, if_false] at hy
      rw [KW.put_other K _ hl] at hp
      by_cases hl' : l' = h.next
      · subst hl'
        rw [KW.put_same] at hp'
        have := old hy hp
        simp only [Option.some.injEq] at hp'
        subst hp'
        simp only; omega
      · simp only [updg, hl', if_false] at hy'
        rw [KW.put_other K _ hl'] at hp'
        exact H.sep l l' y y' p p' hy hy' lv lv' hne hp hp'
  · by_cases hl : l = h.next
    · subst hl
      rw [KW.put_same] at hp
      simp only [Option.some.injEq] at hp
      subst hp
      simp only [KW.put]
      cases hf : K.fix w.heap.size with
      | none => rfl
      | some o' => exact absurd (heap_lt (H.fix _ _ hf)) (by omega)
    · simp only [updg, hl, if_false] at hy
      rw [KW.put_other K _ hl] at hp
      exact H.nofix l y p hy lv hp
  · simp only at hl
    rw [KW.put_other K _ (by omega)]
    exact H.fresh l (by omega)
  · obtain ⟨h1, h2, h3⟩ := H.frame b o' hb
    have hb' := heap_lt h1
    refine ⟨by rw [heap_alloc_old hb']; exact h1, h2, fun l y p hy lv hp => ?_⟩
    by_cases hl : l = h.next
    · subst hl
      rw [KW.put_same] at hp
      simp only [Option.some.injEq] at hp
      subst hp
      simp only; omega
    · simp only [updg, hl, if_false] at hy
      rw [KW.put_other K _ hl] at hp
      exact h3 l y p hy lv hp

/-- A new block that never changes. -/
theorem HRel.newFix {K : KW} {h : AHeap} {w : World} (H : HRel K h w) (o : Obj) :
    K.le { K with fix := fun i => if i = w.heap.size then some o else K.fix i } ∧ HRel { K with fix := fun i => if i = w.heap.size then some o else K.fix i } h (w.alloc o) := by
  have hno : K.fix w.heap.size = none := by
    cases hf : K.fix w.heap.size with
    | none => rfl
    | some o' => exact absurd (heap_lt (H.fix _ _ hf)) (by omega)
  have hle : K.le { K with fix := fun i => if i = w.heap.size then some o else K.fix i } := ⟨fun b o' e => by
    show (if b = w.heap.size then some o else K.fix b) = some o'
    split
    · rename_i hb; subst hb; rw [hno] at e; cases e
    · exact e, fun _ _ e => e, rfl, rfl⟩
  have old : ∀ {l : Nat} {y : AObj} {p : Nat × Nat}, h.get l = some y → K.loc l = some (some p) → p.1 < w.heap.size := fun hy hp => (H.obj _ _ hy).block hp
  refine ⟨hle, fun b o' hb => ?_, fun l y hy => (H.obj l y hy).keep hle fun p hp => heap_alloc_old (old hy hp), H.sep, fun l y p hy lv hp => ?_, H.fresh, fun b o' hb => ?_, fun l m seen es p q e1 e2 e3 e4 => (H.iter l m seen es p q e1 e2 e3 e4).keep (heap_alloc_old (old e1 e3)) (heap_alloc_old (old e2 e4))⟩
  · have hb' : (if b = w.heap.size then some o else K.fix b) = some o' := hb
    split at hb'
    · rename_i he; subst he; cases hb'; exact heap_alloc_at _ _
    · have := H.fix b o' hb'
      rw [heap_alloc_old (heap_lt this)]; exact this
  · show (if p.1 = w.heap.size then some o else K.fix p.1) = none
    rw [if_neg (Nat.ne_of_lt (old hy hp))]
    exact H.nofix l y p hy lv hp
  · obtain ⟨h1, h2, h3⟩ := H.frame b o' hb
    refine ⟨by rw [heap_alloc_old (heap_lt h1)]; exact h1, ?_, h3⟩
    show (if b = w.heap.size then some o else K.fix b) = none
    rw [if_neg (Nat.ne_of_lt (heap_lt h1))]
    exact h2
/-- A named place's block is changed. -/
theorem HRel.changeG {K : KW} {h : AHeap} {w w' : World} (H : HRel K h w) {l : Nat} {x x' : AObj} {p : Nat × Nat} (hx : h.get l = some x) (hp : K.loc l = some (some p))
    (hw : ∀ b, b ≠ p.1 → w'.heap[b]? = w.heap[b]?) (hx' : ORel K x' l w') (lx : x.live = true)
    (hit : ∀ i m seen es q r, updg h.get l (some x') i = some (.miter m seen) → updg h.get l (some x') m = some (.map es) → K.loc i = some (some q) → K.loc m = some (some r) → i = l ∨ m = l → IRel seen q.1 r.1 w') : HRel K { h with get := updg h.get l (some x') } w' := by
  refine ⟨fun b o hb => ?_, fun i y hy => ?_, fun i i' y y' q q' hy hy' lv lv' hne hq hq' => ?_, fun i y q hy lv hq => ?_, H.fresh, fun b o hb => ?_, fun i m seen es q r e1 e2 e3 e4 => ?_⟩
  rotate_right
  · by_cases hil : i = l
    · exact hit i m seen es q r e1 e2 e3 e4 (.inl hil)
    · by_cases hml : m = l
      · exact hit i m seen es q r e1 e2 e3 e4 (.inr hml)
      · simp only [updg, hil, hml, if_false] at e1 e2
        exact (H.iter i m seen es q r e1 e2 e3 e4).keep (hw _ (H.apart e1 hx lx hil e3 hp)) (hw _ (H.apart e2 hx lx hml e4 hp))
  · rw [hw b (fun e => ?_)]
    · exact H.fix b o hb
    · have := H.nofix l x p hx lx hp
      rw [← e, hb] at this; cases this
  · by_cases hi : i = l
    · subst hi
      simp only [updg, if_true, Option.some.injEq] at hy
      subst hy; exact hx'
    · simp only [updg, hi, if_false] at hy
      exact (H.obj i y hy).keep (KW.le_refl K) fun q hq => hw _ (H.apart hy hx lx hi hq hp)
  · have get : ∀ {i : Nat} {y : AObj}, y.live = true → updg h.get l (some x') i = some y → ∃ z, h.get i = some z ∧ z.live = true := by
      intro i y lv hy
      by_cases hi : i = l
      · exact ⟨x, by rw [hi]; exact hx, lx⟩
      · exact ⟨y, by simpa [updg, hi] using hy, lv⟩
    obtain ⟨z, hz, lz⟩ := get lv hy
    obtain ⟨z', hz', lz'⟩ := get lv' hy'
    exact H.sep i i' z z' q q' hz hz' lz lz' hne hq hq'
  · by_cases hi : i = l
    · subst hi
      rw [hp] at hq; cases hq
      exact H.nofix _ x p hx lx hp
    · exact H.nofix i y q (by simpa [updg, hi] using hy) lv hq
  · obtain ⟨h1, h2, h3⟩ := H.frame b o hb
    refine ⟨by rw [hw b (h3 l x p hx lx hp).symm]; exact h1, h2, fun i y q hy lv hq => ?_⟩
    by_cases hi : i = l
    · subst hi
      rw [hp] at hq; cases hq
      exact h3 _ x p hx lx hp
    · exact h3 i y q (by simpa [updg, hi] using hy) lv hq

theorem HRel.change {K : KW} {h : AHeap} {w w' : World} (H : HRel K h w) {l : Nat} {x x' : AObj} {p : Nat × Nat} (hx : h.get l = some x) (hp : K.loc l = some (some p))
    (hw : ∀ b, b ≠ p.1 → w'.heap[b]? = w.heap[b]?) (hx' : ORel K x' l w') (lx : x.live = true := by rfl) (nm : x'.plain = true := by rfl) : HRel K { h with get := updg h.get l (some x') } w' := by
  refine H.changeG hx hp hw hx' lx fun i m seen es q r e1 e2 e3 e4 ho => ?_
  rcases ho with rfl | rfl
  · simp only [updg, if_true, Option.some.injEq] at e1; subst e1; cases nm
  · simp only [updg, if_true, Option.some.injEq] at e2; subst e2; cases nm

/-- An array goes on under a new name, in its own block. -/
theorem HRel.move {K : KW} {h : AHeap} {w w' : World} (H : HRel K h w) {l : Nat} {x x' : AObj} {p : Nat × Nat} (hx : h.get l = some x) (hp : K.loc l = some (some p)) (o : Nat)
    (hw : ∀ b, b < w.heap.size → b ≠ p.1 → w'.heap[b]? = w.heap[b]?) (hx' : ORel (K.put h.next (some (p.1, o))) x' h.next w') (lx : x.live = true := by rfl) (nm : x'.plain = true := by rfl) :
    HRel (K.put h.next (some (p.1, o))) ⟨h.next + 1, updg (updg h.get l none) h.next (some x')⟩ w' := by
  have hle : K.le (K.put h.next (some (p.1, o))) := KW.le_put (H.fresh _ (Nat.le_refl _)) _
  have hln : l < h.next := H.lt hx
  have get : ∀ {i : Nat} {y : AObj}, i ≠ h.next → updg (updg h.get l none) h.next (some x') i = some y → i ≠ l ∧ h.get i = some y := by
    intro i y hi hy
    simp only [updg, hi, if_false] at hy
    by_cases hil : i = l
    · simp [hil] at hy
    · exact ⟨hil, by simpa [hil] using hy⟩
  refine ⟨fun b o' hb => ?_, fun i y hy => ?_, fun i i' y y' q q' hy hy' lv lv' hne hq hq' => ?_, fun i y q hy lv hq => ?_, fun i hi => ?_, fun b o' hb => ?_, fun i m seen es q r e1 e2 e3 e4 => ?_⟩
  rotate_right
  · by_cases hi : i = h.next
    · subst hi
      simp only [updg, if_true, Option.some.injEq] at e1
      rw [e1] at nm; cases nm
    · by_cases hm : m = h.next
      · subst hm
        simp only [updg, if_true, Option.some.injEq] at e2
        rw [e2] at nm; cases nm
      · obtain ⟨n1, g1⟩ := get hi e1
        obtain ⟨n2, g2⟩ := get hm e2
        rw [KW.put_other K _ hi] at e3
        rw [KW.put_other K _ hm] at e4
        exact (H.iter i m seen es q r g1 g2 e3 e4).keep (hw _ ((H.obj i _ g1).block e3) (H.apart g1 hx lx n1 e3 hp)) (hw _ ((H.obj m _ g2).block e4) (H.apart g2 hx lx n2 e4 hp))
  · rw [hw b (heap_lt (H.fix b o' hb)) (fun e => ?_)]
    · exact H.fix b o' hb
    · have := H.nofix l x p hx lx hp
      rw [← e] at this; rw [KW.put_fix] at hb; rw [hb] at this; cases this
  · by_cases hi : i = h.next
    · subst hi
      simp only [updg, if_true, Option.some.injEq] at hy
      subst hy; exact hx'
    · obtain ⟨hil, hy⟩ := get hi hy
      exact (H.obj i y hy).keep hle fun q hq => hw _ ((H.obj i y hy).block hq) (H.apart hy hx lx hil hq hp)
  · by_cases hi : i = h.next
    · subst hi
      have hi' : i' ≠ h.next := fun e => hne e.symm
      obtain ⟨hil, hy'⟩ := get hi' hy'
      rw [KW.put_same] at hq
      rw [KW.put_other K _ hi'] at hq'
      simp only [Option.some.injEq] at hq
      subst hq
      exact fun e => H.apart hy' hx lx hil hq' hp e.symm
    · obtain ⟨hil, hy⟩ := get hi hy
      rw [KW.put_other K _ hi] at hq
      by_cases hi' : i' = h.next
      · subst hi'
        rw [KW.put_same] at hq'
        simp only [Option.some.injEq] at hq'
        subst hq'
        have := H.apart hy hx lx hil hq hp
        exact this
      · obtain ⟨hil', hy'⟩ := get hi' hy'
        rw [KW.put_other K _ hi'] at hq'
        exact H.sep i i' y y' q q' hy hy' lv lv' hne hq hq'
  · by_cases hi : i = h.next
    · subst hi
      rw [KW.put_same] at hq
      simp only [Option.some.injEq] at hq
      subst hq
      exact H.nofix l x p hx lx hp
    · obtain ⟨hil, hy⟩ := get hi hy
      rw [KW.put_other K _ hi] at hq
      exact H.nofix i y q hy lv hq
  · simp only at hi
    rw [KW.put_other K _ (by omega)]
    exact H.fresh i (by omega)
  · obtain ⟨h1, h2, h3⟩ := H.frame b o' hb
    refine ⟨by rw [hw b (heap_lt h1) (h3 l x p hx lx hp).symm]; exact h1, h2, fun i y q hy lv hq => ?_⟩
    by_cases hi : i = h.next
    · subst hi
      rw [KW.put_same] at hq
      simp only [Option.some.injEq] at hq
      subst hq
      exact h3 l x p hx lx hp
    · obtain ⟨hil, hy⟩ := get hi hy
      rw [KW.put_other K _ hi] at hq
      exact h3 i y q hy lv hq

theorem sub_kill (h : AHeap) (l : Nat) : ({ h with get := updg h.get l none } : AHeap).sub h :=
  ⟨rfl, fun i x e => by
    by_cases hi : i = l
    · simp [updg, hi] at e
    · simpa [updg, hi] using e⟩
theorem HRel.kill {K : KW} {h : AHeap} {w : World} (H : HRel K h w) (l : Nat) : HRel K { h with get := updg h.get l none } w := H.sub (sub_kill h l)

/-- A name without a block: an array without room. -/
theorem HRel.bare {K : KW} {h : AHeap} {w : World} (H : HRel K h w) (e : TypeId) (sz : Nat) :
    HRel (K.put h.next none) ⟨h.next + 1, updg h.get h.next (some (.arr e sz []))⟩ w := by
  have hle : K.le (K.put h.next none) := KW.le_put (H.fresh _ (Nat.le_refl _)) _
  have get : ∀ {i : Nat} {y : AObj}, i ≠ h.next → updg h.get h.next (some (.arr e sz [])) i = some y → h.get i = some y := by
    intro i y hi hy
    simpa [updg, hi] using hy
  refine ⟨H.fix, fun i y hy => ?_, fun i i' y y' q q' hy hy' lv lv' hne hq hq' => ?_, fun i y q hy lv hq => ?_, fun i hi => ?_, fun b o' hb => ?_, fun i m seen es q r e1 e2 e3 e4 => ?_⟩
  rotate_right
  · by_cases hi : i = h.next
    · subst hi
      simp [updg] at e1
    · by_cases hm : m = h.next
      · subst hm
        simp [updg] at e2
      · rw [KW.put_other K _ hi] at e3
        rw [KW.put_other K _ hm] at e4
        exact H.iter i m seen es q r (get hi e1) (get hm e2) e3 e4
  · by_cases hi : i = h.next
    · subst hi
      simp only [updg, if_true, Option.some.injEq] at hy
      subst hy
      exact ⟨fun r hr => by simp at hr, .inl ⟨KW.put_same _ _ _, rfl⟩⟩
    · exact (H.obj i y (get hi hy)).keep hle fun q hq => rfl
  · by_cases hi : i = h.next
    · subst hi; rw [KW.put_same] at hq; cases hq
    · by_cases hi' : i' = h.next
      · subst hi'; rw [KW.put_same] at hq'; cases hq'
      · rw [KW.put_other K _ hi] at hq
        rw [KW.put_other K _ hi'] at hq'
        exact H.sep i i' y y' q q' (get hi hy) (get hi' hy') lv lv' hne hq hq'
  · by_cases hi : i = h.next
    · subst hi; rw [KW.put_same] at hq; cases hq
    · rw [KW.put_other K _ hi] at hq
      exact H.nofix i y q (get hi hy) lv hq
  · simp only at hi
    rw [KW.put_other K _ (by omega)]
    exact H.fresh i (by omega)
  · obtain ⟨h1, h2, h3⟩ := H.frame b o' hb
    refine ⟨h1, h2, fun i y q hy lv hq => ?_⟩
    by_cases hi : i = h.next
    · subst hi; rw [KW.put_same] at hq; cases hq
    · rw [KW.put_other K _ hi] at hq
      exact h3 i y q (get hi hy) lv hq

def KW.hold (K : KW) (b : Nat) (o : Obj) : KW := { K with fix := fun i => if i = b then some o else K.fix i }
/-- A block that never changes any more. -/
theorem HRel.hold {K : KW} {h : AHeap} {w : World} (H : HRel K h w) {l : Nat} {x : AObj} {p : Nat × Nat} {o : Obj} (hx : h.get l = some x) (hp : K.loc l = some (some p)) (ho : w.heap[p.1]? = some o) (lx : x.live = true := by rfl) :
    K.le (K.hold p.1 o) ∧ HRel (K.hold p.1 o) { h with get := updg h.get l none } w := by
  have hnf := H.nofix l x p hx lx hp
  have hle : K.le (K.hold p.1 o) := ⟨fun b o' e => by
    simp only [KW.hold]
    split
    · rename_i hb; subst hb; rw [hnf] at e; cases e
    · exact e, fun _ _ e => e, rfl, rfl⟩
  have get : ∀ {i : Nat} {y : AObj}, updg h.get l none i = some y → i ≠ l ∧ h.get i = some y := by
    intro i y hy
    by_cases hil : i = l
    · simp [updg, hil] at hy
    · exact ⟨hil, by simpa [updg, hil] using hy⟩
  refine ⟨hle, fun b o' hb => ?_, fun i y hy => ?_, fun i i' y y' q q' hy hy' lv lv' hne hq hq' => ?_, fun i y q hy lv hq => ?_, H.fresh, fun b o' hb => ?_, fun i m seen es q r e1 e2 e3 e4 => H.iter i m seen es q r (get e1).2 (get e2).2 e3 e4⟩
  · simp only [KW.hold] at hb
    split at hb
    · rename_i e; subst e; cases hb; exact ho
    · exact H.fix b o' hb
  · exact (H.obj i y (get hy).2).keep hle fun q hq => rfl
  · exact H.sep i i' y y' q q' (get hy).2 (get hy').2 lv lv' hne hq hq'
  · obtain ⟨hil, hy⟩ := get hy
    have := H.apart hy hx lx hil hq hp
    simp only [KW.hold, this, if_false]
    exact H.nofix i y q hy lv hq
  · obtain ⟨h1, h2, h3⟩ := H.frame b o' hb
    refine ⟨h1, ?_, fun i y q hy lv hq => h3 i y q (get hy).2 lv hq⟩
    simp only [KW.hold, (h3 l x p hx lx hp).symm, if_false]
    exact h2
/-- A name for what never changes any more. -/
theorem HRel.frz {K : KW} {h : AHeap} {w : World} (H : HRel K h w) {l sz : Nat} {rows : List (List AV)} (ho : ORel K (.frz sz rows) l w) : HRel K { h with get := updg h.get l (some (.frz sz rows)) } w := by
  have get : ∀ {i : Nat} {y : AObj}, y.live = true → updg h.get l (some (.frz sz rows)) i = some y → h.get i = some y := by
    intro i y lv hy
    simp only [updg] at hy
    split at hy
    · cases hy; cases lv
    · exact hy
  refine ⟨H.fix, fun i y hy => ?_, fun i i' y y' q q' hy hy' lv lv' hne hq hq' => H.sep i i' y y' q q' (get lv hy) (get lv' hy') lv lv' hne hq hq', fun i y q hy lv hq => H.nofix i y q (get lv hy) lv hq, H.fresh, fun b o hb => let ⟨h1, h2, h3⟩ := H.frame b o hb; ⟨h1, h2, fun i y q hy lv hq => h3 i y q (get lv hy) lv hq⟩, fun i m seen es q r e1 e2 e3 e4 => H.iter i m seen es q r (get rfl e1) (get rfl e2) e3 e4⟩
  simp only [updg] at hy
  split at hy
  · rename_i hi; subst hi; cases hy; exact ho
  · exact H.obj i y hy
theorem KW.hold_at (K : KW) (b : Nat) (o : Obj) : (K.hold b o).fix b = some o := by simp [KW.hold]

/-- What a step leaves of the world beside its memory. -/
abbrev Glob (w w' : World) : Prop := Below 0 w w'
theorem Glob.refl (w : World) : Glob w w := Below.refl 0 w
theorem Glob.alloc (w : World) (o : Obj) : Glob w (w.alloc o) := (Below.refl 0 w).alloc (Nat.zero_le _) o
theorem Glob.setRow (w : World) (g : Nat) (cs : Array Value) : Glob w (w.setRow g cs) := ⟨rfl, rfl, rfl, by simp, fun i hi => by omega⟩

theorem list_mid {α : Type} (l vs : List α) (a j : Nat) (h : a + vs.length ≤ l.length) :
    (l.take a ++ vs ++ l.drop (a + vs.length))[j]? = if a ≤ j ∧ j < a + vs.length then vs[j - a]? else l[j]? := by
  by_cases h1 : j < a
  · rw [List.append_assoc, List.getElem?_append_left (by simp; omega), List.getElem?_take, if_pos h1, if_neg (by omega)]
  · by_cases h2 : j < a + vs.length
    · rw [List.append_assoc, List.getElem?_append_right (by simp; omega), List.getElem?_append_left (by simp; omega), if_pos (by omega)]
      simp [Nat.min_eq_left (show a ≤ l.length by omega)]
    · rw [List.getElem?_append_right (by simp; omega), if_neg (by omega)]
      simp only [List.getElem?_drop, List.length_append, List.length_take, Nat.min_eq_left (show a ≤ l.length by omega)]
      congr 1; omega

/-- Cells are written over others. -/
theorem CellsAt.write {K : KW} {c : Array Value} {o : Nat} {cs : List AV} (h : CellsAt K c o cs) {off : Nat} {vs : List AV} {us : List Value} (hl : us.length = vs.length) (hu : CellsAt K us.toArray 0 vs)
    (hoff : off + vs.length ≤ cs.length) (hc : o + cs.length ≤ c.size) :
    CellsAt K (c.toList.take (o + off) ++ us ++ c.toList.drop (o + off + us.length)).toArray o (cs.take off ++ vs ++ cs.drop (off + vs.length)) := by
  intro j x e
  rw [list_mid _ _ _ _ (by omega)] at e
  simp only [List.getElem?_toArray]
  rw [list_mid _ _ _ _ (by simp; omega)]
  split at e
  · rename_i hj
    rw [if_pos (by omega)]
    obtain ⟨y, hy, h1, h2⟩ := hu _ x e
    exact ⟨y, by rw [show o + j - (o + off) = j - off by omega]; simpa using hy, h1, h2⟩
  · rename_i hj
    rw [if_neg (by omega)]
    obtain ⟨y, hy, h1, h2⟩ := h _ x e
    exact ⟨y, by simpa using hy, h1, h2⟩

end Go.Proofs.YtolacfnciaimhaaGreatDoor
