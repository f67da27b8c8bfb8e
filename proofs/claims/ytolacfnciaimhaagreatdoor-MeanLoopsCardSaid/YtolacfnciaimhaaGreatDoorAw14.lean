/- A region that draws its order: what leaves the heap alone may be taken first; the others wait for one another. -/
import Derived.Test.YtolacfnciaimhaaGreatDoorAw13
import Derived.Orders
set_option linter.unusedVariables false
set_option linter.unusedSimpArgs false
namespace Go.Proofs.YtolacfnciaimhaaGreatDoor
open Go Go.RowKit

/-! ### Operations that leave the heap alone -/
def noR1 : AV → Bool
  | .rslice _ _ => false
  | _ => true
def noR : AV → Bool
  | .rslice _ _ => false
  | .agg cs => cs.all noR1
  | _ => true
theorem afrz1_noR {h : AHeap} {x : AV} (hx : noR1 x = true) : afrz1 h x = some (x, h) := by
  cases x <;> first | rfl | (simp [noR1] at hx)
theorem afrzs_noR {h : AHeap} : ∀ {xs : List AV}, xs.all noR1 = true → afrzs h xs = some (xs, h)
  | [], _ => rfl
  | x :: xs, hx => by
    simp only [List.all_cons, Bool.and_eq_true] at hx
    simp [afrzs, afrz1_noR hx.1, afrzs_noR hx.2]
theorem afrz_noR {h : AHeap} {x : AV} (hx : noR x = true) : afrz h x = some (x, h) := by
  cases x with
  | agg cs => simp [afrz, afrzs_noR (show cs.all noR1 = true from hx)]
  | rslice l n => simp [noR] at hx
  | _ => rfl
theorem afrzl_noR {h : AHeap} : ∀ {xs : List AV}, xs.all noR = true → afrzl h xs = some (xs, h)
  | [], _ => rfl
  | x :: xs, hx => by
    simp only [List.all_cons, Bool.and_eq_true] at hx
    simp [afrzl, afrz_noR hx.1, afrzl_noR hx.2]

mutual
/-- No name of a place stands in it. -/
def noL : AV → Bool
  | .ptr _ _ => false
  | .eptr _ _ _ _ => false
  | .rslice _ _ => false
  | .map _ => false
  | .vptr row _ => noLs row
  | .slice _ rows => noLss rows
  | .fslice _ rows => noLss rows
  | .agg cs => noLs cs
  | .tuple cs => noLs cs
  | .fn _ a b => noLs a && noLs b
  | .iface _ v => noL v
  | _ => true
def noLs : List AV → Bool
  | [] => true
  | x :: xs => noL x && noLs xs
def noLss : List (List AV) → Bool
  | [] => true
  | r :: rs => noLs r && noLss rs
end
theorem noLs_mem : ∀ {xs : List AV}, noLs xs = true → ∀ x ∈ xs, noL x = true
  | [], _, x, h => by cases h
  | y :: ys, hs, x, h => by
    simp only [noLs, Bool.and_eq_true] at hs
    rcases List.mem_cons.1 h with rfl | h
    · exact hs.1
    · exact noLs_mem hs.2 x h
theorem noLss_mem : ∀ {rs : List (List AV)}, noLss rs = true → ∀ x ∈ rs.flatten, noL x = true
  | [], _, x, h => by simp at h
  | r :: rs, hs, x, h => by
    simp only [noLss, Bool.and_eq_true] at hs
    simp only [List.flatten_cons, List.mem_append] at h
    rcases h with h | h
    · exact noLs_mem hs.1 x h
    · exact noLss_mem hs.2 x h
theorem noLs_of {xs : List AV} (h : ∀ x ∈ xs, noL x = true) : noLs xs = true := by
  induction xs with
  | nil => rfl
  | cons x xs ih => simp only [noLs, h x (by simp), ih fun y hy => h y (by simp [hy]), Bool.and_self]
theorem noLss_of {rs : List (List AV)} (h : ∀ r ∈ rs, noLs r = true) : noLss rs = true := by
  induction rs with
  | nil => rfl
  | cons x xs ih => simp only [noLss, h x (by simp), ih fun y hy => h y (by simp [hy]), Bool.and_self]

theorem noL_noR1 {x : AV} (h : noL x = true) : noR1 x = true := by cases x <;> first | rfl | (simp only [noL] at h; cases h; done)
theorem noL_noR {x : AV} (h : noL x = true) : noR x = true := by
  cases x <;> first
    | rfl
    | (simp only [noL] at h; cases h; done)
    | (simp only [noL] at h
       simp only [noR, List.all_eq_true]
       exact fun y hy => noL_noR1 (noLs_mem h y hy))
theorem noLs_noR {xs : List AV} (h : noLs xs = true) : xs.all noR = true := by
  simp only [List.all_eq_true]
  exact fun y hy => noL_noR (noLs_mem h y hy)

/-- A call that is handed no names. -/
def aopC (P : Program) (ev : Operand → AV) : Op → Option (FuncId × List AV)
  | .call c => match c.callee with
    | .value f => match ev f with
      | .fn g first caps => if callable P g && noLs (first ++ c.args.toList.map ev ++ caps) then some (g, first ++ c.args.toList.map ev ++ caps) else none
      | _ => none
    | _ => none
  | _ => none
theorem aopC_aop {P : Program} {h : AHeap} {ev : Operand → AV} {op : Op} {q : FuncId × List AV} (hx : aopC P ev op = some q) : aop P h ev op = some (.call q.1 q.2 h) := by
  cases op <;> simp only [aopC] at hx <;> try contradiction
  case call c =>
    obtain ⟨callee, args, ts⟩ := c
    cases callee <;> simp only at hx <;> try contradiction
    case value f =>
      split at hx
      case h_2 => cases hx
      rename_i g first caps he
      split at hx
      case isFalse => cases hx
      rename_i hh
      simp only [Bool.and_eq_true] at hh
      cases hx
      simp only [aop, acall, acallf, he, hh.1, if_true, afrzl_noR (noLs_noR hh.2), Option.map_some]
def APure (P : Program) (q : FuncId × List AV) (x : AV) : Prop := ∀ h, ACall P q.1 q.2 h fun r h' => r = .ret x ∧ h' = h
def aopLb (P : Program) (b : Builtin) (args : List AV) (ts : List TypeId) : Option AV := match b, args, ts with
  | .len, [x], [t] => alen P t (defull x)
  | .min, [x, y], _ => amin2 x y
  | .max, [x, y], _ => amax2 x y
  | _, _, _ => none
/-- A literal that is frozen at once. -/
def abuildRows (P : Program) (t : TypeId) (len : Nat) (parts : List (Nat × AV)) : Option (TypeId × Nat × List (List AV)) :=
  (telem P t).bind fun e => (tinfo P e).bind fun p => (tzero P e).bind fun zs => if len * p.1 ≤ 16777216 ∧ zs.length = p.1 ∧ 0 < p.1 then
    (afillR p.1 (List.replicate len zs) parts).map fun rows => (e, p.1, rows) else none
def alitF (P : Program) (t : TypeId) (len : Nat) (parts : List (Nat × AV)) : Option AV := match abuildRows P t len parts with
  | some q => if litFrz q.2.1 q.2.2 then some (.fslice q.2.1 q.2.2) else none
  | none => none
theorem abuildSlice_rows {P : Program} {h : AHeap} {t : TypeId} {len : Nat} {parts : List (Nat × AV)} : abuildSlice P h t len parts = (abuildRows P t len parts).map fun q => (.rslice h.next q.2.2.length, h.push (.arr q.1 q.2.1 q.2.2)) := by
  unfold abuildSlice abuildRows
  cases telem P t with
  | none => rfl
  | some e =>
    simp only [Option.bind_some]
    cases tinfo P e with
    | none => rfl
    | some p =>
      simp only [Option.bind_some]
      cases tzero P e with
      | none => rfl
      | some zs =>
        simp only [Option.bind_some]
        by_cases hc : len * p.1 ≤ 16777216 ∧ zs.length = p.1 ∧ 0 < p.1
        · simp only [if_pos hc, Option.map_map]; rfl
        · simp only [if_neg hc]; rfl
theorem alitF_run {P : Program} {h : AHeap} {t : TypeId} {len : Nat} {parts : List (Nat × AV)} {x : AV} (hx : alitF P t len parts = some x) : abuildF P h t len parts = some (x, h) := by
  unfold alitF at hx
  unfold abuildF
  rw [abuildSlice_rows]
  cases hr : abuildRows P t len parts with
  | none => rw [hr] at hx; cases hx
  | some q =>
    rw [hr] at hx
    simp only at hx
    split at hx
    · rename_i hl
      cases hx
      simp only [Option.map_some, AHeap.push, updg, if_true, hl]
    · cases hx
def amakeRows (P : Program) (t : TypeId) (l c : AV) : Option (TypeId × Nat × List (List AV)) := match l, c with
  | .int _ l, .int _ c => if l = c ∧ 0 ≤ c then (telem P t).bind fun e => (tinfo P e).bind fun p => (tzero P e).bind fun zs => (tbytes P e).bind fun by_ =>
      if c.toNat * p.1 ≤ 16777216 ∧ zs.length = p.1 ∧ 0 < p.1 ∧ (by_ : Int) * c ≤ 281474976710656 then some (e, p.1, List.replicate c.toNat zs) else none
    else none
  | _, _ => none
def amakL (P : Program) (t : TypeId) (l c : AV) : Option AV := match amakeRows P t l c with
  | some q => if litFrz q.2.1 q.2.2 then some (.fslice q.2.1 q.2.2) else none
  | none => none
theorem amakeSlice_rows {P : Program} {h : AHeap} {t : TypeId} {l c : AV} : amakeSlice P h t l c = (amakeRows P t l c).map fun q => (.rslice h.next q.2.2.length, h.push (.arr q.1 q.2.1 q.2.2)) := by
  cases l <;> try rfl
  cases c <;> try rfl
  rename_i k l k' c
  simp only [amakeSlice, amakeRows]
  by_cases hc : l = c ∧ 0 ≤ c
  · simp only [if_pos hc]
    cases telem P t with
    | none => rfl
    | some e =>
      simp only [Option.bind_some]
      cases tinfo P e with
      | none => rfl
      | some p =>
        simp only [Option.bind_some]
        cases tzero P e with
        | none => rfl
        | some zs =>
          simp only [Option.bind_some]
          cases tbytes P e with
          | none => rfl
          | some by_ =>
            simp only [Option.bind_some]
            split <;> simp
  · simp only [if_neg hc]; rfl
theorem amakL_run {P : Program} {h : AHeap} {t : TypeId} {l c x : AV} (hx : amakL P t l c = some x) : amakeF P h t l c = some (x, h) := by
  unfold amakL at hx
  unfold amakeF
  rw [amakeSlice_rows]
  cases hr : amakeRows P t l c with
  | none => rw [hr] at hx; cases hx
  | some q =>
    rw [hr] at hx
    simp only at hx
    split at hx
    · rename_i hl
      cases hx
      simp only [Option.map_some, AHeap.push, updg, if_true, hl]
    · cases hx
def aopL (P : Program) (h : AHeap) (ev : Operand → AV) : Op → Option AV
  | .move x => some (ev x)
  | .buildSlice t n ps => if (ps.toList.map fun p => ev p.2).all noR then alitF P t n (zipParts ps.toList (ps.toList.map fun p => ev p.2)) else none
  | .assign x => some (ev x)
  | .pick c a b => match ev c with
    | .bool t => some (if t then ev a else ev b)
    | _ => none
  | .build t ps => abuild P t (zipParts ps.toList (ps.toList.map fun p => ev p.2))
  | .makeSlice t l c => match l with
    | .const _ => amakL P t (nrm (ev l)) (nrm (ev c))
    | _ => none
  | .load t a => aload P h t (ev a)
  | .nilCheck x => match ev x with
    | .ptr l off => some (.ptr l off)
    | .vptr r off => some (.vptr r off)
    | .eptr l sz i j => some (.eptr l sz i j)
    | .fn f a b => some (.fn f a b)
    | _ => none
  | .binOp op t x y _ => abin P op t (ev x) (ev y)
  | .unOp op _ x => aun op (ev x)
  | .convert s d x => aconv P s d (ev x)
  | .makeInterface t x => if noR (ev x) then amkIface P t (ev x) else none
  | .makeFunc fn a b => match fn with
    | .func f => some (.fn f (a.toList.map ev) (b.toList.map ev))
    | _ => none
  | .slice t x lo hi mx => match mx with
    | none => match defull (ev x) with
      | .str s => (aslice P h t (.str s) (lo.map fun o => nrm (ev o)) (hi.map fun o => nrm (ev o))).map (·.1)
      | .slice sz r => (aslice P h t (.slice sz r) (lo.map fun o => nrm (ev o)) (hi.map fun o => nrm (ev o))).map (·.1)
      | .rslice r m => (aslice P h t (.rslice r m) (lo.map fun o => nrm (ev o)) (hi.map fun o => nrm (ev o))).map (·.1)
      | _ => none
    | some _ => none
  | .fieldAddr s x k => afieldAddr P s (ev x) k
  | .field s x k => afield P s (ev x) k
  | .indexAddr t x i => aindexAddr P h t (defull (ev x)) (nrm (ev i))
  | .index t x i => aindex P t (defull (ev x)) (nrm (ev i))
  | .lookup t x k ok => alookup P h t (ev x) (ev k) ok
  | .typeAssert x _ t ok => aassert P (ev x) t ok
  | .extract x i => aextract (ev x) i
  | .call c => match c.callee with
    | .builtin b => aopLb P b (c.args.toList.map ev) c.argTypes.toList
    | _ => none
  | _ => none

def ALight (P : Program) (h : AHeap) (ev : Operand → AV) (op : Op) (K : AV → Prop) : Prop := match aopC P ev op with
  | some q => ∃ x, APure P q x ∧ K x
  | none => osome (aopL P h ev op) K

def Subg (g g' : Nat → Option AObj) : Prop := ∀ l x, g l = some x → g' l = some x

theorem aload_mono {P : Program} {h h' : AHeap} (s : Subg h.get h'.get) {t : TypeId} {p x : AV} (hx : aload P h t p = some x) : aload P h' t p = some x := by
  cases p <;> simp only [aload] at hx ⊢ <;> try contradiction
  case ptr l off =>
    split at hx
    · rename_i cs hl; rw [s l _ hl]; exact hx
    · cases hx
  case eptr l sz i j =>
    split at hx
    · rename_i e sz' rows hl; rw [s l _ hl]; exact hx
    · cases hx
  case vptr row off => exact hx
theorem aindexAddr_mono {P : Program} {h h' : AHeap} (s : Subg h.get h'.get) {t : TypeId} {x i y : AV} (hx : aindexAddr P h t x i = some y) : aindexAddr P h' t x i = some y := by
  unfold aindexAddr at hx ⊢
  cases i <;> simp only at hx ⊢ <;> try contradiction
  case int k n =>
    cases x <;> simp only at hx ⊢ <;> try (first | exact hx | contradiction)
    case rslice l m =>
      obtain ⟨e, he, hx⟩ := Option.bind_eq_some_iff.1 hx
      rw [he]
      simp only [Option.bind_some]
      split at hx
      · rename_i sz b e' sz' rows hi hl
        rw [hi, s l _ hl]; exact hx
      · rename_i sz b sz' rows hi hl
        rw [hi, s l _ hl]; exact hx
      · cases hx
theorem aslice_str {P : Program} {h h' : AHeap} {t : TypeId} {s : List UInt8} {lo hi : Option AV} {x : AV} (hx : (aslice P h t (.str s) lo hi).map (·.1) = some x) : aslice P h' t (.str s) lo hi = some (x, h') := by
  obtain ⟨⟨y, h1⟩, hy, rfl⟩ := Option.map_eq_some_iff.1 hx
  unfold aslice at hy ⊢
  obtain ⟨l, hl, hy⟩ := Option.bind_eq_some_iff.1 hy
  obtain ⟨n, hn, hy⟩ := Option.bind_eq_some_iff.1 hy
  rw [hl, Option.bind_some, hn, Option.bind_some]
  simp only at hy ⊢
  split at hy
  · obtain ⟨ys, hs, hy⟩ := Option.map_eq_some_iff.1 hy
    cases hy
    rw [hs]; rfl
  · cases hy
theorem aslice_slice {P : Program} {h h' : AHeap} {t : TypeId} {sz : Nat} {r : List (List AV)} {lo hi : Option AV} {x : AV} (hx : (aslice P h t (.slice sz r) lo hi).map (·.1) = some x) : aslice P h' t (.slice sz r) lo hi = some (x, h') := by
  obtain ⟨⟨y, h1⟩, hy, rfl⟩ := Option.map_eq_some_iff.1 hx
  unfold aslice at hy ⊢
  obtain ⟨l, hl, hy⟩ := Option.bind_eq_some_iff.1 hy
  obtain ⟨n, hn, hy⟩ := Option.bind_eq_some_iff.1 hy
  rw [hl, Option.bind_some, hn, Option.bind_some]
  simp only at hy ⊢
  obtain ⟨e, he, hy⟩ := Option.bind_eq_some_iff.1 hy
  rw [he, Option.bind_some]
  split at hy
  · split at hy
    · rename_i hm
      obtain ⟨ys, hs, hy⟩ := Option.map_eq_some_iff.1 hy
      cases hy
      rw [if_pos hm, hs]; rfl
    · cases hy
  · cases hy

theorem aslice_rslice {P : Program} {h h' : AHeap} (s : Subg h.get h'.get) {t : TypeId} {r m : Nat} {lo hi : Option AV} {x : AV} (hx : (aslice P h t (.rslice r m) lo hi).map (·.1) = some x) : aslice P h' t (.rslice r m) lo hi = some (x, h') := by
  obtain ⟨⟨y, h1⟩, hy, rfl⟩ := Option.map_eq_some_iff.1 hx
  clear hx
  unfold aslice at hy ⊢
  obtain ⟨l, hl, hy⟩ := Option.bind_eq_some_iff.1 hy
  obtain ⟨n, hn, hy⟩ := Option.bind_eq_some_iff.1 hy
  rw [hl, Option.bind_some, hn, Option.bind_some]
  simp only at hy ⊢
  split at hy
  · rename_i ht hg _
    split at hy
    · rename_i hh
      cases hy
      rw [ht, s r _ hg]
      simp only [if_pos hh]
    · cases hy
  · cases hy
/-- What is light gives its value on every heap that has what it looks at. -/
theorem aopL_aop {P : Program} {h h' : AHeap} (s : Subg h.get h'.get) {ev : Operand → AV} {op : Op} {x : AV} (hx : aopL P h ev op = some x) : aop P h' ev op = some (.val x h') := by
  cases op <;> simp only [aopL, aop] at hx ⊢ <;> try contradiction
  case move => cases hx; rfl
  case assign => cases hx; rfl
  case pick => split at hx <;> first | (rename_i he; rw [he]; cases hx; rfl) | cases hx
  case build t ps => simp only [otell, hx, Option.map_some]
  case buildSlice t n ps =>
    split at hx
    · rename_i hn
      rw [afrzl_noR hn, Option.bind_some, alitF_run hx]; rfl
    · cases hx
  case makeSlice t l c =>
    cases l <;> simp only at hx ⊢ <;> try contradiction
    rw [amakL_run hx]; rfl
  case load => simp only [otell, aload_mono s hx, Option.map_some]
  case nilCheck => split at hx <;> first | (rename_i he; rw [he]; cases hx; rfl) | cases hx
  case binOp => simp only [otell, hx, Option.map_some]
  case unOp => simp only [otell, hx, Option.map_some]
  case convert => simp only [otell, hx, Option.map_some]
  case makeInterface =>
    split at hx
    · rename_i hn
      rw [afrz_noR hn, Option.bind_some]
      simp only [otell, hx, Option.map_some]
    · cases hx
  case makeFunc fn a b => cases fn <;> simp only at hx ⊢ <;> first | (cases hx; rfl) | cases hx
  case slice t x lo hi mx =>
    cases mx with
    | some m => simp only at hx; cases hx
    | none =>
      simp only at hx ⊢
      split at hx
      · rename_i str he
        rw [he]; simp only [ores, aslice_str hx, Option.map_some]
      · rename_i sz r he
        rw [he]; simp only [ores, aslice_slice hx, Option.map_some]
      · rename_i r m he
        rw [he]; simp only [ores, aslice_rslice s hx, Option.map_some]
      · cases hx
  case fieldAddr => simp only [otell, hx, Option.map_some]
  case field => simp only [otell, hx, Option.map_some]
  case indexAddr => simp only [otell, aindexAddr_mono s hx, Option.map_some]
  case index => simp only [otell, hx, Option.map_some]
  case lookup t x k ok =>
    have : alookup P h' t (ev x) (ev k) ok = alookup P h t (ev x) (ev k) ok := by
      unfold alookup at hx ⊢
      obtain ⟨q, hq, hx⟩ := Option.bind_eq_some_iff.1 hx
      rw [hq]
      simp only [Option.bind_some]
      generalize tkind P q.1 = tk at hx ⊢
      generalize ev k = kv at hx ⊢
      generalize ev x = xv at hx ⊢
      cases tk <;> cases kv <;> simp only at hx ⊢ <;> try (cases hx; done)
      cases xv <;> simp only at hx ⊢
      rename_i l
      cases hg : h.get l with
      | none => rw [hg] at hx; simp only at hx; cases hx
      | some o => rw [s l o hg]
    simp only [otell, this, hx, Option.map_some]
  case typeAssert => simp only [otell, hx, Option.map_some]
  case extract => simp only [otell, hx, Option.map_some]
  case call c =>
    obtain ⟨callee, args, ts⟩ := c
    simp only [acall] at hx ⊢
    cases callee with
    | value f => simp only at hx; cases hx
    | invoke r m => simp only at hx; cases hx
    | builtin b =>
      simp only at hx ⊢
      unfold aopLb at hx
      split at hx
      · rename_i x t ha ht
        rw [ha, ht]
        simp only [acallb]
        split
        · exfalso
          unfold alen at hx
          split at hx <;> first | (cases hx; done) | (rename_i hcon; cases hcon)
        · simp only [otell, hx, Option.map_some]
      · rename_i x y ha
        rw [ha]
        simp only [acallb, otell, hx, Option.map_some]
      · rename_i x y ha
        rw [ha]
        simp only [acallb, otell, hx, Option.map_some]
      · cases hx

/-! ### What an operation looks at -/
theorem aop_congr {P : Program} {h : AHeap} {ev ev' : Operand → AV} {op : Op} (he : ∀ x ∈ op.operands, ev x = ev' x) : aop P h ev op = aop P h ev' op := by
  have pairs : ∀ ps : Array (Nat × Operand), (∀ x ∈ (ps.toList.map (·.2)).toArray, ev x = ev' x) → (ps.toList.map fun p => ev p.2) = ps.toList.map fun p => ev' p.2 := fun ps hp =>
    List.map_congr_left fun p hm => hp p.2 (by simp only [List.mem_toArray, List.mem_map]; exact ⟨p, hm, rfl⟩)
  have calls : ∀ c : Call, (∀ x ∈ c.operands, ev x = ev' x) → c.args.toList.map ev = c.args.toList.map ev' := fun c hc =>
    List.map_congr_left fun x hx => hc x (by simp only [Call.operands, Array.mem_append]; exact .inr (by simpa using hx))
  cases op <;> simp only [Op.operands] at he <;> simp only [aop]
  case move x => rw [he x (by simp)]
  case assign x => rw [he x (by simp)]
  case pick c a b => rw [he c (by simp), he a (by simp), he b (by simp)]
  case box t x => rw [he x (by simp)]
  case build t ps => rw [pairs ps he]
  case buildSlice t n ps => rw [pairs ps he]
  case load t a => rw [he a (by simp)]
  case store t a v => rw [he a (by simp), he v (by simp)]
  case nilCheck x => rw [he x (by simp)]
  case binOp op t x y yt => rw [he x (by simp), he y (by simp)]
  case unOp op t x => rw [he x (by simp)]
  case convert s d x => rw [he x (by simp)]
  case makeInterface t x => rw [he x (by simp)]
  case makeFunc fn a b =>
    have h1 : a.toList.map ev = a.toList.map ev' := List.map_congr_left fun x hx => he x (by simp only [Array.mem_append]; exact .inl (by simpa using hx))
    have h2 : b.toList.map ev = b.toList.map ev' := List.map_congr_left fun x hx => he x (by simp only [Array.mem_append]; exact .inr (by simpa using hx))
    rw [h1, h2]
  case slice t x lo hi mx =>
    have hx := he x (by simp)
    have hl : (lo.map fun o => nrm (ev o)) = lo.map fun o => nrm (ev' o) := by
      cases lo with
      | none => rfl
      | some l => simp only [Option.map_some]; rw [he l (by simp)]
    have hh : (hi.map fun o => nrm (ev o)) = hi.map fun o => nrm (ev' o) := by
      cases hi with
      | none => rfl
      | some l => simp only [Option.map_some]; rw [he l (by simp)]
    rw [hx, hl, hh]
  case fieldAddr s x k => rw [he x (by simp)]
  case field s x k => rw [he x (by simp)]
  case indexAddr t x i => rw [he x (by simp), he i (by simp)]
  case index t x i => rw [he x (by simp), he i (by simp)]
  case range t x => rw [he x (by simp)]
  case next x is => rw [he x (by simp)]
  case entry x => rw [he x (by simp)]
  case makeSlice t l c => rw [he l (by simp), he c (by simp)]
  case lookup t x k ok => rw [he x (by simp), he k (by simp)]
  case mapUpdate t m k x => rw [he m (by simp), he k (by simp), he x (by simp)]
  case insert t m k x => rw [he m (by simp), he k (by simp), he x (by simp)]
  case typeAssert x xt t ok => rw [he x (by simp)]
  case extract x i => rw [he x (by simp)]
  case call c =>
    obtain ⟨callee, args, ts⟩ := c
    have ha := calls _ he
    simp only at ha
    simp only [acall]
    cases callee with
    | value f => simp only; rw [he f (by simp [Call.operands]), ha]
    | builtin b => simp only; rw [ha]
    | invoke r m => rfl
  case defer c =>
    obtain ⟨callee, args, ts⟩ := c
    have ha := calls _ he
    simp only at ha
    cases callee with
    | value f => simp only; rw [he f (by simp [Call.operands]), ha]
    | builtin b => rfl
    | invoke r m => rfl
  case panic x => rw [he x (by simp)]

theorem aopC_congr {P : Program} {ev ev' : Operand → AV} {op : Op} (he : ∀ x ∈ op.operands, ev x = ev' x) : aopC P ev op = aopC P ev' op := by
  cases op <;> try rfl
  case call c =>
    obtain ⟨callee, args, ts⟩ := c
    cases callee <;> try rfl
    case value f =>
      have h1 : ev f = ev' f := he _ (by simp [Op.operands, Call.operands])
      have h2 : args.toList.map ev = args.toList.map ev' := List.map_congr_left fun z hz => he _ (by simp only [Op.operands, Call.operands]; simp; exact .inr (by simpa using hz))
      simp only [aopC, h1, h2]
theorem aopL_congr {P : Program} {h : AHeap} {ev ev' : Operand → AV} {op : Op} (he : ∀ x ∈ op.operands, ev x = ev' x) : aopL P h ev op = aopL P h ev' op := by
  have pairs : ∀ ps : Array (Nat × Operand), (∀ x ∈ (ps.toList.map (·.2)).toArray, ev x = ev' x) → (ps.toList.map fun p => ev p.2) = ps.toList.map fun p => ev' p.2 := fun ps hp =>
    List.map_congr_left fun p hm => hp p.2 (by simp only [List.mem_toArray, List.mem_map]; exact ⟨p, hm, rfl⟩)
  have calls : ∀ c : Call, (∀ x ∈ c.operands, ev x = ev' x) → c.args.toList.map ev = c.args.toList.map ev' := fun c hc =>
    List.map_congr_left fun x hx => hc x (by simp only [Call.operands, Array.mem_append]; exact .inr (by simpa using hx))
  cases op <;> simp only [Op.operands] at he <;> simp only [aopL]
  case move x => rw [he x (by simp)]
  case assign x => rw [he x (by simp)]
  case pick c a b => rw [he c (by simp), he a (by simp), he b (by simp)]
  case build t ps => rw [pairs ps he]
  case buildSlice t n ps => rw [pairs ps he]
  case makeSlice t l c =>
    rw [he l (by simp), he c (by simp)]
  case load t a => rw [he a (by simp)]
  case nilCheck x => rw [he x (by simp)]
  case binOp op t x y yt => rw [he x (by simp), he y (by simp)]
  case unOp op t x => rw [he x (by simp)]
  case convert s d x => rw [he x (by simp)]
  case makeInterface t x => rw [he x (by simp)]
  case makeFunc fn a b =>
    have h1 : a.toList.map ev = a.toList.map ev' := List.map_congr_left fun x hx => he x (by simp only [Array.mem_append]; exact .inl (by simpa using hx))
    have h2 : b.toList.map ev = b.toList.map ev' := List.map_congr_left fun x hx => he x (by simp only [Array.mem_append]; exact .inr (by simpa using hx))
    rw [h1, h2]
  case slice t x lo hi mx =>
    have hx := he x (by simp)
    have hl : (lo.map fun o => nrm (ev o)) = lo.map fun o => nrm (ev' o) := by
      cases lo with
      | none => rfl
      | some l => simp only [Option.map_some]; rw [he l (by simp)]
    have hh : (hi.map fun o => nrm (ev o)) = hi.map fun o => nrm (ev' o) := by
      cases hi with
      | none => rfl
      | some l => simp only [Option.map_some]; rw [he l (by simp)]
    rw [hx, hl, hh]
  case fieldAddr s x k => rw [he x (by simp)]
  case field s x k => rw [he x (by simp)]
  case indexAddr t x i => rw [he x (by simp), he i (by simp)]
  case index t x i => rw [he x (by simp), he i (by simp)]
  case lookup t x k ok => rw [he x (by simp), he k (by simp)]
  case typeAssert x xt t ok => rw [he x (by simp)]
  case extract x i => rw [he x (by simp)]
  case call c =>
    obtain ⟨callee, args, ts⟩ := c
    have ha := calls _ he
    simp only at ha
    cases callee with
    | value f => rfl
    | invoke r m => rfl
    | builtin b => simp only; rw [ha]

end Go.Proofs.YtolacfnciaimhaaGreatDoor
