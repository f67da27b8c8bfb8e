/- What one operation does to abstract values: an append; arrays that never change any more. -/
import Derived.Test.YtolacfnciaimhaaGreatDoorAw6
import Derived.Maps.AppendAt
set_option linter.unusedVariables false
set_option linter.unusedSimpArgs false
namespace Go.Proofs.YtolacfnciaimhaaGreatDoor
open Go Go.RowKit

/-- A new name for a block that was not there. -/
theorem HRel.later {K : KW} {h : AHeap} {w w' : World} (H : HRel K h w) (x : AObj) (b0 off : Nat) (hb0 : w.heap.size ≤ b0)
    (hf : ∀ b o, K.fix b = some o → w'.heap[b]? = some o) (hw : ∀ i y q, h.get i = some y → K.loc i = some (some q) → w'.heap[q.1]? = w.heap[q.1]?)
    (hx : ORel (K.put h.next (some (b0, off))) x h.next w') (hfr : ∀ b o, K.frm b = some o → w'.heap[b]? = some o) (nm : x.plain = true := by rfl) : HRel (K.put h.next (some (b0, off))) (h.push x) w' := by
  have hle : K.le (K.put h.next (some (b0, off))) := KW.le_put (H.fresh _ (Nat.le_refl _)) _
  have old : ∀ {l : Nat} {y : AObj} {p : Nat × Nat}, h.get l = some y → K.loc l = some (some p) → p.1 < w.heap.size := fun hy hp => (H.obj _ _ hy).block hp
  refine ⟨fun b o' hb => hf b o' hb, fun l y hy => ?_, fun l l' y y' p p' hy hy' lv lv' hne hp hp' => ?_, fun l y p hy lv hp => ?_, fun l hl => ?_, fun b o' hb => ?_, fun i m seen es q r e1 e2 e3 e4 => ?_⟩
  rotate_right
  · by_cases hi : i = h.next
    · subst hi
      simp only [AHeap.push, updg, if_true, Option.some.injEq] at e1
      rw [e1] at nm; cases nm
    · by_cases hm : m = h.next
      · subst hm
        simp only [AHeap.push, updg, if_true, Option.some.injEq] at e2
        rw [e2] at nm; cases nm
      · simp only [AHeap.push, updg, hi, hm, if_false] at e1 e2
        rw [KW.put_other K _ hi] at e3
        rw [KW.put_other K _ hm] at e4
        exact (H.iter i m seen es q r e1 e2 e3 e4).keep (hw _ _ _ e1 e3) (hw _ _ _ e2 e4)
  · by_cases hl : l = h.next
    · subst hl
      simp only [AHeap.push, updg, if_true, Option.some.injEq] at hy
      subst hy; exact hx
    · simp only [AHeap.push, updg, hl, if_false] at hy
      exact (H.obj l y hy).keep hle fun p hp => hw l y p hy hp
  · by_cases hl : l = h.next
    · subst hl
      have hl' : l' ≠ h.next := fun e => hne e.symm
      simp only [AHeap.push, updg, hl', if_false] at hy'
      rw [KW.put_other K _ hl'] at hp'
      rw [KW.put_same] at hp
      have := old hy' hp'
      simp only [Option.some.injEq] at hp
      subst hp
      simp only; omega
    · simp only [AHeap.push, updg, hl, if_false] at hy
      rw [KW.put_other K _ hl] at hp
      by_cases hl' : l' = h.next
      · subst hl'
        rw [KW.put_same] at hp'
        have := old hy hp
        simp only [Option.some.injEq] at hp'
        subst hp'
        simp only; omega
      · simp only [AHeap.push, updg, hl', if_false] at hy'
        rw [KW.put_other K _ hl'] at hp'
        exact H.sep l l' y y' p p' hy hy' lv lv' hne hp hp'
  · by_cases hl : l = h.next
    · subst hl
      rw [KW.put_same] at hp
      simp only [Option.some.injEq] at hp
      subst hp
      simp only [KW.put]
      cases hf' : K.fix b0 with
      | none => rfl
      | some o' => exact absurd (heap_lt (H.fix _ _ hf')) (by omega)
    · simp only [AHeap.push, updg, hl, if_false] at hy
      rw [KW.put_other K _ hl] at hp
      exact H.nofix l y p hy lv hp
  · simp only [AHeap.push] at hl
    rw [KW.put_other K _ (by omega)]
    exact H.fresh l (by omega)
  · obtain ⟨h1, h2, h3⟩ := H.frame b o' hb
    have hb' := heap_lt h1
    refine ⟨hfr b o' hb, h2, fun l y p hy lv hp => ?_⟩
    by_cases hl : l = h.next
    · subst hl
      rw [KW.put_same] at hp
      simp only [Option.some.injEq] at hp
      subst hp
      simp only; omega
    · simp only [AHeap.push, updg, hl, if_false] at hy
      rw [KW.put_other K _ hl] at hp
      exact h3 l y p hy lv hp

/-! ### A live array, as far as a slice of it goes -/
def atrim (h : AHeap) (x : AV) : AHeap := match x with
  | .rslice l m => match h.get l with
    | some (.arr e sz rows) => if m < rows.length then ⟨h.next, updg h.get l (some (.arr e sz (rows.take m)))⟩ else h
    | _ => h
  | _ => h
theorem HRel.trim {K : KW} {h : AHeap} {w : World} (H : HRel K h w) (x : AV) : HRel K (atrim h x) w := by
  unfold atrim
  split
  case h_2 => exact H
  rename_i l m
  split
  case h_2 => exact H
  rename_i e sz rows hl
  split
  case isFalse => exact H
  rename_i hm
  have old : ∀ l' y, y.live = true → updg h.get l (some (.arr e sz (rows.take m))) l' = some y → ∃ z, h.get l' = some z ∧ z.live = true := fun l' y lv hy => by
    simp only [updg] at hy
    split at hy
    · rename_i hh; exact ⟨_, hh ▸ hl, rfl⟩
    · exact ⟨_, hy, lv⟩
  refine ⟨H.fix, fun l' y hy => ?_, fun l1 l2 y1 y2 p1 p2 h1 h2 v1 v2 => ?_, fun l' y p hy lv => ?_, H.fresh, fun b o hb => ?_, fun i mm seen es q r e1 e2 e3 e4 => ?_⟩
  rotate_right
  · have oldM : ∀ l' y, y.plain = false → updg h.get l (some (.arr e sz (rows.take m))) l' = some y → h.get l' = some y := fun l' y lv hy => by
      simp only [updg] at hy
      split at hy
      · cases hy; cases lv
      · exact hy
    exact H.iter i mm seen es q r (oldM _ _ rfl e1) (oldM _ _ rfl e2) e3 e4
  · simp only [updg] at hy
    split at hy
    · rename_i hh
      subst hh
      cases hy
      obtain ⟨hs, ho⟩ := H.obj l' _ hl
      refine ⟨fun r hr => hs r (List.mem_of_mem_take hr), ?_⟩
      rcases ho with ⟨h1, rfl⟩ | ⟨b, cap, c, e', h1, h2, he, h3, h4, h5, h6⟩
      · exact .inl ⟨h1, by simp⟩
      · refine .inr ⟨b, cap, c, e', h1, h2, he, h3, by simp; omega, h5, ?_⟩
        rw [flat_take hs]
        have := h6.part 0 (m * sz)
        simpa using this
    · exact H.obj l' y hy
  · obtain ⟨z1, h1, v1⟩ := old _ _ v1 h1
    obtain ⟨z2, h2, v2⟩ := old _ _ v2 h2
    exact H.sep l1 l2 z1 z2 p1 p2 h1 h2 v1 v2
  · obtain ⟨z, hz, lz⟩ := old _ _ lv hy
    exact H.nofix l' z p hz lz
  · obtain ⟨h1, h2, h3⟩ := H.frame b o hb
    exact ⟨h1, h2, fun l' y p hy lv hp => let ⟨z, hz, lz⟩ := old _ _ lv hy; h3 l' z p hz lz hp⟩

/-! ### append -/
/-- The rows of a slice. -/
def arows (h : AHeap) (sz : Nat) : AV → Option (List (List AV))
  | .nils => some []
  | .slice sz' rows => if sz' = sz ∨ rows.isEmpty = true then some rows else none
  | .rslice l m => match h.get l with
    | some (.arr _ sz' rows) => if sz' = sz ∧ m = rows.length then some rows else none
    | some (.frz sz' rows) => if sz' = sz ∧ m = rows.length then some rows else none
    | _ => none
  | _ => none

/-- What is appended: nothing, or rows that stand in memory. -/
theorem arows_run {K : KW} {h : AHeap} {w : World} (H : HRel K h w) {sz : Nat} {x : AV} {v : Value} {rows : List (List AV)} (hv : VR K x v) (hx : arows h sz x = some rows) :
    (∀ r, r ∈ rows → r.length = sz) ∧ ((rows = [] ∧ ∃ a c, v = .slice a 0 c) ∨
      ∃ (a : Addr) (c : Nat) (news : List Value), v = .slice (some a) rows.length c ∧ news.length = rows.length * sz ∧ (∀ j u, news[j]? = some u → w.cell? (a.add j) = some u) ∧ (∀ u ∈ news, u.oneCell' = true) ∧ CellsAt K news.toArray 0 rows.flatten) := by
  have make : ∀ (b o : Nat) (c : Array Value) (e : TypeId) (fr : Nat × Nat) (cap : Nat), w.heap[b]? = some (.cells c e fr) → CellsAt K c o rows.flatten → (∀ r, r ∈ rows → r.length = sz) → v = .slice (some ⟨b, o, none⟩) rows.length cap →
      ∃ (a : Addr) (c : Nat) (news : List Value), v = .slice (some a) rows.length c ∧ news.length = rows.length * sz ∧ (∀ j u, news[j]? = some u → w.cell? (a.add j) = some u) ∧ (∀ u ∈ news, u.oneCell' = true) ∧ CellsAt K news.toArray 0 rows.flatten := by
    intro b o c e fr cap hb hc hs hv
    obtain ⟨g, hg, h1, hvv⟩ := hc.fn
    rw [flat_len hs] at hg h1
    refine ⟨⟨b, o, none⟩, cap, (List.range (rows.length * sz)).map g, hv, by simp, fun j u hj => ?_, fun u hu => ?_, fun j x e => ?_⟩
    · have hjl : j < rows.length * sz := by have := (List.getElem?_eq_some_iff.1 hj).1; simpa using this
      simp only [List.getElem?_map, List.getElem?_range hjl, Option.map_some, Option.some.injEq] at hj
      subst hj
      rw [addr_add, cell_of hb]
      exact hg j hjl
    · simp only [List.mem_map, List.mem_range] at hu
      obtain ⟨j, hj, rfl⟩ := hu
      exact h1 j hj
    · have hjl : j < rows.length * sz := by rw [← flat_len hs]; exact (List.getElem?_eq_some_iff.1 e).1
      exact ⟨g j, by simp [hjl], h1 j hjl, hvv j x e⟩
  have frozen : ∀ {sz' : Nat}, VR K (.slice sz' rows) v → (sz' = sz ∨ rows.isEmpty = true) → (∀ r, r ∈ rows → r.length = sz) ∧ ((rows = [] ∧ ∃ a c, v = .slice a 0 c) ∨
      ∃ (a : Addr) (c : Nat) (news : List Value), v = .slice (some a) rows.length c ∧ news.length = rows.length * sz ∧ (∀ j u, news[j]? = some u → w.cell? (a.add j) = some u) ∧ (∀ u ∈ news, u.oneCell' = true) ∧ CellsAt K news.toArray 0 rows.flatten) := by
    intro sz' hv hh
    cases hv with
    | slice0 => exact ⟨fun r hr => by simp at hr, .inl ⟨rfl, _, _, rfl⟩⟩
    | slice _ _ b o cap c e fr g hb hsz hc h1 hvv hn hcap =>
      by_cases he : rows = []
      · subst he
        exact ⟨fun r hr => by simp at hr, .inl ⟨rfl, _, _, rfl⟩⟩
      · have hsz' : sz' = sz := by
          rcases hh with h | h
          · exact h
          · exact absurd (List.isEmpty_iff.1 h) he
        subst hsz'
        exact ⟨hsz, .inr (make b o c e fr cap (H.fix _ _ hb) (CellsAt.of_fn hc h1 hvv) hsz rfl)⟩
  cases x <;> simp only [arows] at hx <;> try contradiction
  case nils =>
    cases hx
    cases hv
    exact ⟨fun r hr => by simp at hr, .inl ⟨rfl, _, _, rfl⟩⟩
  case slice sz' rows' =>
    split at hx
    case isFalse => cases hx
    rename_i hh
    cases hx
    exact frozen hv hh
  case rslice l m =>
    split at hx
    case h_3 => cases hx
    case h_2 sz' rows' hl =>
      split at hx
      case isFalse => cases hx
      rename_i hh
      cases hx
      obtain ⟨hsz, rfl⟩ := hh
      obtain ⟨q, _, _, h3⟩ := H.obj l _ hl
      have := h3 rows.length v (Nat.le_refl _) hv
      rw [List.take_length] at this
      exact frozen this (.inl hsz)
    rename_i e sz' rows' hl
    split at hx
    case isFalse => cases hx
    rename_i hh
    cases hx
    obtain ⟨rfl, hm⟩ := hh
    obtain ⟨hs, ho⟩ := H.obj l _ hl
    refine ⟨hs, ?_⟩
    cases hv with
    | rslice0 _ hloc =>
      have : rows = [] := List.eq_nil_of_length_eq_zero hm.symm
      exact .inl ⟨this, _, _, rfl⟩
    | rslice _ _ b cap hloc =>
      rcases ho with ⟨h1, _⟩ | ⟨b', cap', c, e', h1, h2, he, h3, h4, h5, h6⟩
      · rw [h1] at hloc; cases hloc
      · rw [h1] at hloc
        simp only [Option.some.injEq, Prod.mk.injEq] at hloc
        obtain ⟨rfl, rfl⟩ := hloc
        exact .inr (make b' 0 c e' (0, 0) cap' h2 h6 hs (by rw [hm]))

def aappend (P : Program) (h : AHeap) (t : TypeId) (s x : AV) : Option (AV × AHeap) :=
  (telem P t).bind fun e => (tinfo P e).bind fun p => (tbytes P e).bind fun by_ => (arows h p.1 x).bind fun new =>
    if e = 0 ∨ p.1 = 0 ∨ by_ = 0 ∨ ((tzero P e).map (·.length)) ≠ some p.1 then none else match s with
    | .nils => if new.length * by_ ≤ 140737488355328 then some (.rslice h.next new.length, h.push (.arr e p.1 new)) else none
    | .rslice l m => match h.get l with
      | some (.arr e' sz' old) => if e' = e ∧ sz' = p.1 ∧ m = old.length ∧ (old.length + new.length) * by_ ≤ 140737488355328 then
          some (.rslice h.next (old.length + new.length), ⟨h.next + 1, updg (updg h.get l none) h.next (some (.arr e p.1 (old ++ new)))⟩) else none
      | _ => none
    | .fslice sz' old => if new.length = 0 then some (.fslice sz' old, h) else if sz' = p.1 ∧ old.length ≠ 0 ∧ new.length ≠ 0 ∧ (old.length + new.length) * by_ ≤ 140737488355328 then some (.rslice h.next (old.length + new.length), h.push (.arr e p.1 (old ++ new))) else none
    | _ => none

theorem run_append_none {P : Program} {w : World} {t ty e : TypeId} {m : Nat} (ht : P.underlying t = some (.slice e)) (hs : (sizeOf e).run P w = .ok m w) (s : Option Addr) (n cap : Nat) (hn : n ≤ cap) (a : Option Addr) (c : Nat) :
    (Builtin.append_ #[t, t] ty #[.slice s n cap, .slice a 0 c]).run P w = .ok (.slice s n cap) w := by
  have hf : (Builtin.firstCells m 0 (.slice a 0 c)).run P w = .ok #[] w := by
    cases a <;> simp [Builtin.firstCells, loadCells, loadCellsFrom]
  cases s <;> simp [Builtin.append_, run_underlying ht, hs, Builtin.lenOf, hn, hf, storeCells]

theorem own_row {K : KW} {w : World} {e : TypeId} {sz : Nat} {rows : List (List AV)} {b cap : Nat} {c : Array Value} (h2 : w.heap[b]? = some (.cells c e)) (h3 : c.size = cap * sz) (h4 : rows.length ≤ cap) (h5 : cap ≤ maxLen) :
    w.ownsRow 0 e sz (.slice (some ⟨b, 0, none⟩) rows.length cap) rows.length (c.toList.take (rows.length * sz)) := by
  refine ⟨?_, .inr ⟨b, cap, c, rfl, Nat.zero_le _, h2, h4, h5, h3, rfl⟩⟩
  have : rows.length * sz ≤ cap * sz := Nat.mul_le_mul_right _ h4
  simp; omega

theorem cells_take {K : KW} {c : Array Value} {n : Nat} {xs : List AV} (h : CellsAt K c 0 xs) (hn : xs.length ≤ n) : CellsAt K (c.toList.take n).toArray 0 xs := by
  intro j x e
  have hj : j < xs.length := (List.getElem?_eq_some_iff.1 e).1
  obtain ⟨y, hy, h1, h2⟩ := h j x e
  refine ⟨y, ?_, h1, h2⟩
  simp only [Nat.zero_add] at hy ⊢
  rw [List.getElem?_toArray, List.getElem?_take, if_pos (by omega)]
  simpa using hy
theorem cells_join {K : KW} {a b : List Value} {xs ys : List AV} (ha : CellsAt K a.toArray 0 xs) (hn : a.length = xs.length) (hb : CellsAt K b.toArray 0 ys) : CellsAt K (a ++ b).toArray 0 (xs ++ ys) := by
  intro j x e
  by_cases hj : j < xs.length
  · rw [List.getElem?_append_left hj] at e
    obtain ⟨y, hy, h1, h2⟩ := ha j x e
    simp only [Nat.zero_add, List.getElem?_toArray] at hy ⊢
    exact ⟨y, by rw [List.getElem?_append_left (by omega)]; exact hy, h1, h2⟩
  · rw [List.getElem?_append_right (by omega)] at e
    obtain ⟨y, hy, h1, h2⟩ := hb _ x e
    simp only [Nat.zero_add, List.getElem?_toArray] at hy ⊢
    exact ⟨y, by rw [List.getElem?_append_right (by omega), hn]; exact hy, h1, h2⟩
theorem cells_of_take {K : KW} {c : Array Value} {xs : List Value} {ys : List AV} {n : Nat} (h : c.toList.take n = xs) (hc : CellsAt K xs.toArray 0 ys) : CellsAt K c 0 ys := by
  intro j x e
  obtain ⟨y, hy, h1, h2⟩ := hc j x e
  refine ⟨y, ?_, h1, h2⟩
  subst h
  simp only [Nat.zero_add, List.getElem?_toArray] at hy ⊢
  rw [List.getElem?_take] at hy
  split at hy
  · simpa using hy
  · cases hy

theorem aappend_run {P : Program} {K : KW} {h h' : AHeap} {w : World} (H : HRel K h w) {t ty : TypeId} {s x y : AV} {sv xv : Value} (hs : VR K s sv) (hxv : VR K x xv) (hx : aappend P h t s x = some (y, h')) :
    Gives P (Builtin.append_ #[t, t] ty #[sv, xv]) K w y h' := by
  unfold aappend at hx
  obtain ⟨e, he, hx1⟩ := Option.bind_eq_some_iff.1 hx; clear hx
  obtain ⟨⟨sz, ag⟩, hi, hx⟩ := Option.bind_eq_some_iff.1 hx1; clear hx1
  obtain ⟨by_, hby, hx1⟩ := Option.bind_eq_some_iff.1 hx; clear hx
  obtain ⟨new, hnew, hx⟩ := Option.bind_eq_some_iff.1 hx1; clear hx1
  simp only at hx hnew
  split at hx
  · cases hx
  rename_i hcond
  simp only [not_or] at hcond
  obtain ⟨he0, hsz0, hby0, hz0⟩ := hcond
  simp only [ne_eq, Decidable.not_not] at hz0
  obtain ⟨zs, hz, hzl⟩ := Option.map_eq_some_iff.1 hz0
  have hu := telem_run he
  have hsr := (tinfo_run hi w).1
  obtain ⟨i, hii, hi2⟩ := Option.bind_eq_some_iff.1 hi
  obtain ⟨d, hd, hi3⟩ := Option.map_eq_some_iff.1 hi2
  simp only [Prod.mk.injEq] at hi3
  have hby' : i.bytes = by_ := by
    simp only [tbytes, hii, Option.map_some, Option.some.injEq] at hby
    exact hby
  obtain ⟨z, hzz⟩ : ∃ z, i.zero = some z ∧ z.cells.size = sz := by
    simp only [tzero, hii, Option.bind_some] at hz
    obtain ⟨z, hz1, hz2⟩ := Option.bind_eq_some_iff.1 hz
    split at hz2
    · cases hz2
      exact ⟨z, hz1, by simpa using hzl⟩
    · cases hz2
  obtain ⟨hns, hnv⟩ := arows_run H hxv hnew
  have hmul : ∀ n : Nat, n * by_ ≤ 140737488355328 → n ≤ maxLen := fun n hn => by
    have := Nat.le_mul_of_pos_right n (Nat.pos_of_ne_zero hby0)
    simp only [maxLen]; omega
  split at hx
  · -- onto nothing
    split at hx
    case isFalse => cases hx
    rename_i hb
    cases hx
    cases hs
    rcases hnv with ⟨rfl, a, c, rfl⟩ | ⟨a, c, news, rfl, hnl, hncell, hn1, hnc⟩
    · have hle : K.le (K.put h.next none) := KW.le_put (H.fresh _ (Nat.le_refl _)) _
      exact ⟨_, w, _, hle, run_append_none hu hsr none 0 0 (Nat.le_refl _) a c, H.bare e sz, .rslice0 _ (KW.put_same _ _ _), Glob.refl w⟩
    · by_cases hn0 : new.length = 0
      · have : new = [] := List.eq_nil_of_length_eq_zero hn0
        subst this
        have hle : K.le (K.put h.next none) := KW.le_put (H.fresh _ (Nat.le_refl _)) _
        exact ⟨_, w, _, hle, run_append_none hu hsr none 0 0 (Nat.le_refl _) (some a) c, H.bare e sz, .rslice0 _ (KW.put_same _ _ _), Glob.refl w⟩
      · obtain ⟨v', w', hrun, hown, hg, hiff, hat⟩ := run_append_own_at (P := P) w 0 t ty e i z sz by_ hu hii hzz.1 hi3.1 hby' hzz.2 (Nat.pos_of_ne_zero hsz0) (.slice none 0 0) 0 [] (World.ownsRow_nil w 0 e sz) a new.length c news hnl hncell hn1
          (by rw [Nat.zero_add]; exact hmul _ hb) (by rw [Nat.zero_add]; exact hb) (Nat.zero_le _)
        simp only [Nat.zero_add, List.nil_append] at hown hiff
        rcases hown.2 with ⟨hv', h0⟩ | ⟨g, cap, cur, rfl, _, hgb, hnc', hcm, hcs, htake⟩
        · exact absurd h0 hn0
        · have hgs : g = w.heap.size := by
            rcases hat with h | h
            · simp [Value.ownBlock] at h
            · simpa [Value.ownBlock] using h
          have hle : K.le (K.put h.next (some (g, cap))) := KW.le_put (H.fresh _ (Nat.le_refl _)) _
          refine ⟨_, w', _, hle, hrun, H.later (.arr e sz new) g cap (by omega) (fun b o hb => ?_) (fun i' y' q hy' hq => ?_) ?_ (fun b o hb => ?_), .rslice _ _ _ _ (KW.put_same _ _ _), ⟨hg.os, hg.tape, hg.output, hg.size, fun k hk => by omega⟩⟩
          · have := H.fix b o hb
            rw [hg.block b (heap_lt this) (by simp [Value.ownBlock])]; exact this
          · exact hg.block _ ((H.obj _ _ hy').block hq) (by simp [Value.ownBlock])
          · exact ⟨hns, .inr ⟨g, cap, cur, e, KW.put_same _ _ _, hgb, .inr rfl, hcs, hnc', hcm, (cells_of_take htake hnc).mono hle⟩⟩
          · have := (H.frame b o hb).1
            rw [hg.block b (heap_lt this) (by simp [Value.ownBlock])]; exact this
  · rename_i l m
    split at hx
    case h_2 => cases hx
    rename_i e' sz' old hl
    split at hx
    case isFalse => cases hx
    rename_i hh
    obtain ⟨rfl, rfl, hm, hb⟩ := hh
    cases hx
    obtain ⟨hos, ho⟩ := H.obj l _ hl
    have hall : ∀ r, r ∈ old ++ new → r.length = sz' := fun r hr => by
      rcases List.mem_append.1 hr with h | h
      · exact hos r h
      · exact hns r h
    have same : new = [] → Gives P (Builtin.append_ #[t, t] ty #[sv, xv]) K w (.rslice h.next (old.length + new.length)) ⟨h.next + 1, updg (updg h.get l none) h.next (some (.arr e' sz' (old ++ new)))⟩ := by
      intro hn0
      subst hn0
      simp only [List.append_nil, List.length_nil, Nat.add_zero]
      obtain ⟨a, c, rfl⟩ : ∃ a c, xv = .slice a 0 c := by
        rcases hnv with ⟨_, a, c, rfl⟩ | ⟨a, c, news, rfl, _⟩
        · exact ⟨a, c, rfl⟩
        · exact ⟨some a, c, rfl⟩
      cases hs with
      | rslice0 _ hloc =>
        have hold : old = [] := List.eq_nil_of_length_eq_zero hm.symm
        subst hold
        have hle : K.le (K.put h.next none) := KW.le_put (H.fresh _ (Nat.le_refl _)) _
        exact ⟨_, w, _, hle, run_append_none hu hsr none 0 0 (Nat.le_refl _) a c, (H.kill l).bare e' sz', .rslice0 _ (KW.put_same _ _ _), Glob.refl w⟩
      | rslice _ _ b cap hloc =>
        rcases ho with ⟨h1, _⟩ | ⟨b', cap', cc, e'', h1, h2, he', h3, h4, h5, h6⟩
        · rw [h1] at hloc; cases hloc
        · rw [h1] at hloc
          simp only [Option.some.injEq, Prod.mk.injEq] at hloc
          obtain ⟨rfl, rfl⟩ := hloc
          have hle : K.le (K.put h.next (some (b', cap'))) := KW.le_put (H.fresh _ (Nat.le_refl _)) _
          subst hm
          exact ⟨_, w, _, hle, run_append_none hu hsr _ _ _ h4 a c, H.move hl h1 cap' (fun _ _ _ => rfl) ⟨hos, .inr ⟨b', cap', cc, e'', KW.put_same _ _ _, h2, he', h3, h4, h5, h6.mono hle⟩⟩, .rslice _ _ _ _ (KW.put_same _ _ _), Glob.refl w⟩
    by_cases hn0 : new = []
    · exact same hn0
    have hnpos : new.length ≠ 0 := fun h => hn0 (List.eq_nil_of_length_eq_zero h)
    rcases hnv with ⟨h, _⟩ | ⟨a, c, news, rfl, hnl, hncell, hn1, hnc⟩
    · exact absurd h hn0
    -- the old one
    have own : ∃ xs, w.ownsRow 0 e' sz' sv old.length xs ∧ CellsAt K xs.toArray 0 old.flatten := by
      cases hs with
      | rslice0 _ hloc =>
        have hold : old = [] := List.eq_nil_of_length_eq_zero hm.symm
        subst hold
        exact ⟨[], World.ownsRow_nil w 0 e' sz', CellsAt.nil _ _ _⟩
      | rslice _ _ b cap hloc =>
        rcases ho with ⟨h1, _⟩ | ⟨b', cap', cc, e'', h1, h2, he', h3, h4, h5, h6⟩
        · rw [h1] at hloc; cases hloc
        · rw [h1] at hloc
          simp only [Option.some.injEq, Prod.mk.injEq] at hloc
          obtain ⟨rfl, rfl⟩ := hloc
          subst hm
          have hee : e'' = e' := he'.resolve_left he0
          subst hee
          exact ⟨_, own_row (K := K) h2 h3 h4 h5, cells_take h6 (by rw [flat_len hos]; exact Nat.le_refl _)⟩
    obtain ⟨xs, hown0, hxc⟩ := own
    obtain ⟨v', w', hrun, hown, hg, hiff, hat⟩ := run_append_own_at (P := P) w 0 t ty e' i z sz' by_ hu hii hzz.1 hi3.1 hby' hzz.2 (Nat.pos_of_ne_zero hsz0) sv old.length xs hown0 a new.length c news hnl hncell hn1 (hmul _ hb) hb (Nat.zero_le _)
    have hcells : CellsAt K (xs ++ news).toArray 0 (old ++ new).flatten := by
      rw [List.flatten_append]
      exact cells_join hxc (by rw [hown0.1, flat_len hos]) hnc
    rcases hown.2 with ⟨hv', h0⟩ | ⟨g, cap, cur, rfl, _, hgb, hnc', hcm, hcs, htake⟩
    · omega
    have hlen2 : (old ++ new).length ≤ cap := by simpa using hnc'
    have hgl : Glob w w' := ⟨hg.os, hg.tape, hg.output, hg.size, fun k hk => by omega⟩
    have hle : K.le (K.put h.next (some (g, cap))) := KW.le_put (H.fresh _ (Nat.le_refl _)) _
    have hOR : ORel (K.put h.next (some (g, cap))) (.arr e' sz' (old ++ new)) h.next w' :=
      ⟨hall, .inr ⟨g, cap, cur, e', KW.put_same _ _ _, hgb, .inr rfl, hcs, hlen2, hcm, (cells_of_take htake hcells).mono hle⟩⟩
    have fresh_case : g = w.heap.size → (∀ k, sv.ownBlock = some k → ∃ q, K.loc l = some (some q) ∧ q.1 = k) → Gives P (Builtin.append_ #[t, t] ty #[sv, .slice (some a) new.length c]) K w (.rslice h.next (old.length + new.length)) ⟨h.next + 1, updg (updg h.get l none) h.next (some (.arr e' sz' (old ++ new)))⟩ := by
      intro hgs hblk
      refine ⟨_, w', _, hle, hrun, (H.kill l).later (.arr e' sz' (old ++ new)) g cap (by omega) (fun b o hb => ?_) (fun i' y' q hy' hq => ?_) hOR (fun b o hb => ?_), .rslice _ _ _ _ (KW.put_same _ _ _), hgl⟩
      · have := H.fix b o hb
        rw [hg.block b (heap_lt this) (fun heq => ?_)]
        · exact this
        · obtain ⟨q, hq, hq1⟩ := hblk b heq.symm
          have := H.nofix l _ q hl rfl hq
          rw [hq1, hb] at this; cases this
      · have hne : i' ≠ l ∧ h.get i' = some y' := by
          by_cases hil : i' = l
          · simp [updg, hil] at hy'
          · exact ⟨hil, by simpa [updg, hil] using hy'⟩
        refine hg.block _ ((H.obj _ _ hne.2).block hq) (fun heq => ?_)
        obtain ⟨q', hq', hq1⟩ := hblk _ heq.symm
        exact H.apart hne.2 hl rfl hne.1 hq hq' hq1.symm
      · obtain ⟨h1, h2, h3⟩ := H.frame b o hb
        rw [hg.block b (heap_lt h1) (fun heq => ?_)]
        · exact h1
        · obtain ⟨q, hq, hq1⟩ := hblk b heq.symm
          exact h3 l _ q hl rfl hq hq1
    cases hs with
    | rslice0 _ hloc =>
      refine fresh_case ?_ (fun k hk => by simp [Value.ownBlock] at hk)
      rcases hat with h | h
      · simp [Value.ownBlock] at h
      · simpa [Value.ownBlock] using h
    | rslice _ _ b cap0 hloc =>
      rcases hat with h | h
      · -- in its own block
        have hgb' : g = b := by simpa [Value.ownBlock] using h
        subst hgb'
        exact ⟨_, w', _, hle, hrun, H.move hl hloc cap (fun b' hbl hb' => hg.block b' hbl (by simpa [Value.ownBlock] using hb')) hOR, .rslice _ _ _ _ (KW.put_same _ _ _), hgl⟩
      · exact fresh_case (by simpa [Value.ownBlock] using h) (fun k hk => ⟨_, hloc, by simpa [Value.ownBlock] using hk⟩)
  · rename_i sz' old
    split at hx
    · rename_i h0
      cases hx
      have hn0 : new = [] := List.eq_nil_of_length_eq_zero h0
      subst hn0
      obtain ⟨a, c, rfl⟩ : ∃ a c, xv = .slice a 0 c := by
        rcases hnv with ⟨_, a, c, rfl⟩ | ⟨a, c, news, rfl, _⟩
        · exact ⟨a, c, rfl⟩
        · exact ⟨some a, c, rfl⟩
      have hs' := hs
      cases hs with
      | fslice _ _ ad hsl => exact ⟨K, w, _, KW.le_refl K, run_append_none hu hsr ad old.length old.length (Nat.le_refl _) a c, H, hs', Glob.refl w⟩
    split at hx
    case isFalse => cases hx
    rename_i hh
    obtain ⟨rfl, hoz, hnz, hb⟩ := hh
    cases hx
    cases hs with
    | fslice _ _ ad hsl =>
      rcases hnv with ⟨h, _⟩ | ⟨a, c, news, rfl, hnl, hncell, hn1, hnc⟩
      · exact absurd (by rw [h]; rfl) hnz
      obtain ⟨hos, hov⟩ := arows_run H hsl (rows := old) (sz := sz') (by simp [arows])
      rcases hov with ⟨h, _⟩ | ⟨a', c', olds, hv, hol, hocell, ho1, hoc⟩
      · exact absurd (by rw [h]; rfl) hoz
      simp only [Value.slice.injEq, true_and] at hv
      obtain ⟨rfl, rfl⟩ := hv
      have hszi : i.size = sz' := hi3.1
      have hr := run_append_grow (P := P) w t ty e i z hu hii hzz.1 a' old.length old.length olds (by rw [hszi]; exact hol) hocell a new.length c news (by rw [hszi]; exact hnl) hncell (by omega)
        (by have := hmul _ hb; simp only [maxLen] at this; omega) (growslice_fits (by omega) (by rw [hby']; exact hb))
      have hge := grownCap_ge w (old.length + new.length) old.length e
      have hcm := grownCap_le_maxLen w (old.length + new.length) old.length e (hmul _ hb)
      have hall : ∀ r, r ∈ old ++ new → r.length = sz' := fun r hr => by
        rcases List.mem_append.1 hr with h | h
        · exact hos r h
        · exact hns r h
      have hcells : CellsAt K (olds ++ news).toArray 0 (old ++ new).flatten := by
        rw [List.flatten_append]
        exact cells_join hoc (by rw [hol, flat_len hos]) hnc
      have Hd : HRel K h w.drew := H.of_heap rfl
      have hsize : (olds.toArray ++ news.toArray ++ Builtin.zeroCells z.cells (grownCap w (old.length + new.length) old.length e - (old.length + new.length))).size = grownCap w (old.length + new.length) old.length e * sz' := by
        simp only [Array.size_append, List.size_toArray, size_zeroCells, hzz.2, hol, hnl, ← Nat.add_mul]
        congr 1
        omega
      have htake : (olds.toArray ++ news.toArray ++ Builtin.zeroCells z.cells (grownCap w (old.length + new.length) old.length e - (old.length + new.length))).toList.take ((old.length + new.length) * sz') = olds ++ news := by
        simp only [Array.toList_append, List.append_assoc]
        rw [← List.append_assoc, show (old.length + new.length) * sz' = (olds ++ news).length by rw [List.length_append, hol, hnl, Nat.add_mul]]
        exact List.take_left
      obtain ⟨K', hle, H', hv'⟩ := new_arr Hd e (cap := grownCap w (old.length + new.length) old.length e) (cells_of_take htake hcells) hsize hall hcm (by simpa using hge)
      refine ⟨K', _, _, hle, hr, H', ?_, ⟨rfl, rfl, rfl, by simp [World.alloc], fun k hk => by omega⟩⟩
      simpa using hv'
  · cases hx


/-! ### Arrays that never change any more -/
def atake (m : Nat) (rows : List (List AV)) : Option (List (List AV)) := if m = rows.length then some rows else if m < rows.length then some (rows.take m) else none
theorem atake_eq {m : Nat} {rows rs : List (List AV)} (h : atake m rows = some rs) : m ≤ rows.length ∧ rs = rows.take m := by
  unfold atake at h
  split at h
  · rename_i hm
    cases h
    exact ⟨by omega, by rw [hm, List.take_length]⟩
  · split at h
    · rename_i hm
      cases h
      exact ⟨by omega, rfl⟩
    · cases h
theorem slice_held {K : KW} {b cap sz : Nat} {c : Array Value} {e : TypeId} {rows : List (List AV)} (hb : K.fix b = some (.cells c e)) (hs : ∀ r, r ∈ rows → r.length = sz) (hc : CellsAt K c 0 rows.flatten) (hl : rows.length ≤ cap) (hcap : cap ≤ maxLen) (m : Nat) (hm : m ≤ rows.length) :
    VR K (.slice sz (rows.take m)) (.slice (some ⟨b, 0, none⟩) m cap) := by
  have htk : CellsAt K c 0 (rows.take m).flatten := by
    rw [flat_take hs]
    have := hc.part 0 (m * sz)
    simpa using this
  have hlen : (rows.take m).length = m := by simp; omega
  obtain ⟨g, hg, hg1, hgv⟩ := htk.fn
  have := VR.slice (K := K) sz (rows.take m) b 0 cap c e (0, 0) g hb (fun r hr => hs r (List.mem_of_mem_take hr)) hg hg1 hgv (by rw [hlen]; simp only [maxLen] at hcap; omega) (by rw [hlen]; omega)
  rw [hlen] at this
  exact this
/-- A literal that never changes any more: unless it holds slices alone. -/
def isNils : AV → Bool
  | .nils => true
  | _ => false
def litFrz (sz : Nat) (rows : List (List AV)) : Bool := !rows.isEmpty && !(Nat.beq sz 1 && rows.any fun r => r.any isNils)
def abuildF (P : Program) (h : AHeap) (t : TypeId) (len : Nat) (parts : List (Nat × AV)) : Option (AV × AHeap) := match abuildSlice P h t len parts with
  | some (.rslice l n, h1) => match h1.get l with
    | some (.arr _ sz rows) => if litFrz sz rows then some (.fslice sz rows, h) else some (.rslice l n, h1)
    | _ => some (.rslice l n, h1)
  | o => o
theorem rslice_form {K : KW} {l n m cap : Nat} {a : Addr} (h : VR K (.rslice l n) (.slice (some a) m cap)) : a.off = 0 ∧ a.spot = none ∧ K.loc l = some (some (a.block, cap)) := by
  generalize hv : Value.slice (some a) m cap = v at h
  cases h <;> cases hv
  rename_i b hloc
  exact ⟨rfl, rfl, hloc⟩
theorem abuildF_run {P : Program} {K : KW} {h h' : AHeap} {w : World} (H : HRel K h w) {t : TypeId} {len : Nat} {parts : List (Nat × AV)} {vals : Array (Nat × Value)} {x : AV} (hp : PartsRel K parts vals) (hx : abuildF P h t len parts = some (x, h')) :
    Gives P (Instr.buildSlice t len vals) K w x h' := by
  unfold abuildF at hx
  split at hx
  · rename_i l n h1 hb
    split at hx
    · rename_i e0 sz0 rows0 hl
      split at hx
      · cases hx
        obtain ⟨K', w', a, rows, e, sz, hle, hr, H', hv, hg, hxl, hh, c, hw, ha, hcc, hss, hml⟩ := abuildSlice_run' H hp hb
        cases hxl
        subst hh
        simp only [AHeap.push, updg, if_true, Option.some.injEq, AObj.arr.injEq] at hl
        obtain ⟨rfl, rfl, rfl⟩ := hl
        subst hw; subst ha
        obtain ⟨hle2, H2⟩ := H.newFix (.cells c e)
        refine ⟨_, _, _, hle2, hr, H2, ?_, Glob.alloc w _⟩
        have := slice_held (K := { K with fix := fun i => if i = w.heap.size then some (.cells c e) else K.fix i }) (b := w.heap.size) (cap := rows.length) (c := c) (e := e) (by simp) hss (hcc.mono hle2) (Nat.le_refl _) hml rows.length (Nat.le_refl _)
        rw [List.take_length] at this
        exact .fslice sz rows _ this
      · cases hx
        exact abuildSlice_run H hp hb
    · cases hx
      exact abuildSlice_run H hp hb
  · exact abuildSlice_run H hp hx
/-- A row of noughts of a known length: it never changes. -/
def amakeF (P : Program) (h : AHeap) (t : TypeId) (l c : AV) : Option (AV × AHeap) := match amakeSlice P h t l c with
  | some (.rslice l n, h1) => match h1.get l with
    | some (.arr _ sz rows) => if litFrz sz rows then some (.fslice sz rows, h) else some (.rslice l n, h1)
    | _ => some (.rslice l n, h1)
  | o => o
theorem amakeF_run {P : Program} {K : KW} {h h' : AHeap} {w : World} (H : HRel K h w) {t : TypeId} {a b x : AV} {u v : Value} (ha : VR K a u) (hb : VR K b v) (hx : amakeF P h t a b = some (x, h')) :
    Gives P (Instr.makeSlice t u v) K w x h' := by
  unfold amakeF at hx
  split at hx
  · rename_i l n h1 hm
    split at hx
    · rename_i e0 sz0 rows0 hl
      split at hx
      · cases hx
        obtain ⟨K', w', a, rows, e, sz, hle, hr, H', hv, hg, hxl, hh, c, hw, ha, hcc, hss, hml⟩ := amakeSlice_run' H ha hb hm
        cases hxl
        subst hh
        simp only [AHeap.push, updg, if_true, Option.some.injEq, AObj.arr.injEq] at hl
        obtain ⟨rfl, rfl, rfl⟩ := hl
        subst hw; subst ha
        obtain ⟨hle2, H2⟩ := H.newFix (.cells c e)
        refine ⟨_, _, _, hle2, hr, H2, ?_, Glob.alloc w _⟩
        have := slice_held (K := { K with fix := fun i => if i = w.heap.size then some (.cells c e) else K.fix i }) (b := w.heap.size) (cap := rows.length) (c := c) (e := e) (by simp) hss (hcc.mono hle2) (Nat.le_refl _) hml rows.length (Nat.le_refl _)
        rw [List.take_length] at this
        exact .fslice sz rows _ this
      · cases hx
        exact amakeSlice_run H ha hb hm
    · cases hx
      exact amakeSlice_run H ha hb hm
  · exact amakeSlice_run H ha hb hx
def afrz1 (h : AHeap) (x : AV) : Option (AV × AHeap) := match x with
  | .rslice l m => match h.get l with
    | some (.arr _ sz rows) => (atake m rows).map fun rs => (.slice sz rs, ⟨h.next, updg h.get l (some (.frz sz rows))⟩)
    | some (.frz sz rows) => (atake m rows).map fun rs => (.slice sz rs, h)
    | _ => none
  | x => some (x, h)
theorem afrz1_run {K : KW} {h h' : AHeap} {w : World} (H : HRel K h w) {x y : AV} (hx : afrz1 h x = some (y, h')) : ∃ K', K.le K' ∧ HRel K' h' w ∧ ∀ v, VR K x v → VR K' y v := by
  unfold afrz1 at hx
  split at hx
  · rename_i l m
    split at hx
    · rename_i e sz rows hl
      obtain ⟨rs, hrs, hx⟩ := Option.map_eq_some_iff.1 hx
      obtain ⟨hm, rfl⟩ := atake_eq hrs
      cases hx
      obtain ⟨hs, ho⟩ := H.obj l _ hl
      rcases ho with ⟨h1, rfl⟩ | ⟨b, cap, c, e', h1, h2, he, h3, h4, h5, h6⟩
      · have hz : ∀ m v, m ≤ ([] : List (List AV)).length → VR K (.rslice l m) v → VR K (.slice sz (([] : List (List AV)).take m)) v := fun m v _ hv => by
          rw [List.take_nil]
          cases hv with
          | rslice _ _ b cap hloc => rw [h1] at hloc; cases hloc
          | rslice0 => exact .slice0 _ _ _
        exact ⟨K, KW.le_refl K, H.frz ⟨none, h1, fun p hp => by (cases hp), hz⟩, fun v hv => hz m v hm hv⟩
      · obtain ⟨hle, H'⟩ := H.hold hl h1 h2
        have hz : ∀ m v, m ≤ rows.length → VR (K.hold (b, cap).1 (.cells c e')) (.rslice l m) v → VR (K.hold (b, cap).1 (.cells c e')) (.slice sz (rows.take m)) v := fun m v hm hv => by
          cases hv with
          | rslice0 _ hloc => rw [hle.2 _ _ h1] at hloc; cases hloc
          | rslice _ _ b' cap' hloc =>
            rw [hle.2 _ _ h1] at hloc
            simp only [Option.some.injEq, Prod.mk.injEq] at hloc
            obtain ⟨rfl, rfl⟩ := hloc
            exact slice_held (KW.hold_at _ _ _) hs (h6.mono hle) h4 h5 m hm
        have H2 := H'.frz (l := l) (sz := sz) (rows := rows) ⟨some (b, cap), hle.2 _ _ h1, fun p hp => by cases hp; exact ⟨_, KW.hold_at _ _ _, h2⟩, hz⟩
        have e1 : updg (updg h.get l none) l (some (.frz sz rows)) = updg h.get l (some (.frz sz rows)) := by
          funext i
          simp only [updg]
          split <;> rfl
        rw [e1] at H2
        exact ⟨_, hle, H2, fun v hv => hz m v hm (hv.mono hle)⟩
    · rename_i sz rows hl
      obtain ⟨rs, hrs, hx⟩ := Option.map_eq_some_iff.1 hx
      obtain ⟨hm, rfl⟩ := atake_eq hrs
      cases hx
      obtain ⟨q, h1, h2, h3⟩ := H.obj l _ hl
      exact ⟨K, KW.le_refl K, H, fun v hv => h3 m v hm hv⟩
    · cases hx
  · cases hx
    exact ⟨K, KW.le_refl K, H, fun v hv => hv⟩

/-- The cells of a row, one behind the other. -/
def afrzs (h : AHeap) : List AV → Option (List AV × AHeap)
  | [] => some ([], h)
  | x :: xs => (afrz1 h x).bind fun p => (afrzs p.2 xs).map fun q => (p.1 :: q.1, q.2)
theorem afrzs_run {w : World} : ∀ {K : KW} {h h' : AHeap}, HRel K h w → ∀ {xs ys : List AV}, afrzs h xs = some (ys, h') → ∃ K', K.le K' ∧ HRel K' h' w ∧ ys.length = xs.length ∧ ∀ (i : Nat) x y, xs[i]? = some x → ys[i]? = some y → ∀ v, VR K x v → VR K' y v := by
  intro K h h' H xs
  induction xs generalizing K h with
  | nil =>
    intro ys hx
    cases hx
    exact ⟨K, KW.le_refl K, H, rfl, fun i x y e => by simp at e⟩
  | cons x xs ih =>
    intro ys hx
    simp only [afrzs] at hx
    obtain ⟨⟨y, h1⟩, hy, hx1⟩ := Option.bind_eq_some_iff.1 hx
    obtain ⟨⟨zs, h2⟩, hz, hx2⟩ := Option.map_eq_some_iff.1 hx1
    cases hx2
    obtain ⟨K1, hle1, H1, hv1⟩ := afrz1_run H hy
    obtain ⟨K2, hle2, H2, hn, hv2⟩ := ih H1 hz
    refine ⟨K2, KW.le_trans hle1 hle2, H2, by simp [hn], fun i a b ea eb v hv => ?_⟩
    cases i with
    | zero =>
      simp only [List.getElem?_cons_zero, Option.some.injEq] at ea eb
      subst ea; subst eb
      exact (hv1 v hv).mono hle2
    | succ i => exact hv2 i a b (by simpa using ea) (by simpa using eb) v (hv.mono hle1)

/-- A value, and the cells of a row. -/
def afrz (h : AHeap) (x : AV) : Option (AV × AHeap) := match x with
  | .agg cs => (afrzs h cs).map fun p => (.agg p.1, p.2)
  | x => afrz1 h x
theorem afrz_run {K : KW} {h h' : AHeap} {w : World} (H : HRel K h w) {x y : AV} (hx : afrz h x = some (y, h')) : ∃ K', K.le K' ∧ HRel K' h' w ∧ ∀ v, VR K x v → VR K' y v := by
  unfold afrz at hx
  split at hx
  · rename_i cs
    obtain ⟨⟨ys, h1⟩, hy, hx1⟩ := Option.map_eq_some_iff.1 hx
    cases hx1
    obtain ⟨K', hle, H', hn, hv⟩ := afrzs_run H hy
    refine ⟨K', hle, H', fun v hvv => ?_⟩
    cases hvv with
    | agg _ vs hn' h1' hv' =>
      exact .agg _ vs (by rw [hn', hn]) (fun i hi => h1' i (by simp only at hi; omega)) fun i y ey => by
        have hi : i < cs.length := by rw [← hn]; exact (List.getElem?_eq_some_iff.1 ey).1
        exact hv i _ y (List.getElem?_eq_getElem hi) ey _ (hv' i _ (List.getElem?_eq_getElem hi))
  · exact afrz1_run H hx

def afrzl (h : AHeap) : List AV → Option (List AV × AHeap)
  | [] => some ([], h)
  | x :: xs => (afrz h x).bind fun p => (afrzl p.2 xs).map fun q => (p.1 :: q.1, q.2)
theorem afrzl_run {w : World} : ∀ {K : KW} {h h' : AHeap}, HRel K h w → ∀ {xs ys : List AV}, afrzl h xs = some (ys, h') → ∃ K', K.le K' ∧ HRel K' h' w ∧ ys.length = xs.length ∧ ∀ (i : Nat) x y, xs[i]? = some x → ys[i]? = some y → ∀ v, VR K x v → VR K' y v := by
  intro K h h' H xs
  induction xs generalizing K h with
  | nil =>
    intro ys hx
    cases hx
    exact ⟨K, KW.le_refl K, H, rfl, fun i x y e => by simp at e⟩
  | cons x xs ih =>
    intro ys hx
    simp only [afrzl] at hx
    obtain ⟨⟨y, h1⟩, hy, hx1⟩ := Option.bind_eq_some_iff.1 hx
    obtain ⟨⟨zs, h2⟩, hz, hx2⟩ := Option.map_eq_some_iff.1 hx1
    cases hx2
    obtain ⟨K1, hle1, H1, hv1⟩ := afrz_run H hy
    obtain ⟨K2, hle2, H2, hn, hv2⟩ := ih H1 hz
    refine ⟨K2, KW.le_trans hle1 hle2, H2, by simp [hn], fun i a b ea eb v hv => ?_⟩
    cases i with
    | zero =>
      simp only [List.getElem?_cons_zero, Option.some.injEq] at ea eb
      subst ea; subst eb
      exact (hv1 v hv).mono hle2
    | succ i => exact hv2 i a b (by simpa using ea) (by simpa using eb) v (hv.mono hle1)
theorem afrzl_vrs {K : KW} {h h' : AHeap} {w : World} (H : HRel K h w) {xs ys : List AV} {vs : Array Value} (hv : VRs K xs vs) (hx : afrzl h xs = some (ys, h')) : ∃ K', K.le K' ∧ HRel K' h' w ∧ VRs K' ys vs := by
  obtain ⟨K', hle, H', hn, hv'⟩ := afrzl_run H hx
  refine ⟨K', hle, H', by rw [hv.1, hn], fun i y ey => ?_⟩
  have hi : i < xs.length := by rw [← hn]; exact (List.getElem?_eq_some_iff.1 ey).1
  exact hv' i _ y (List.getElem?_eq_getElem hi) ey _ (hv.2 i _ (List.getElem?_eq_getElem hi))

end Go.Proofs.YtolacfnciaimhaaGreatDoor
