/- One operation, whichever it is: a function on abstract values, and that the model's operation does the same. -/
import Derived.Test.YtolacfnciaimhaaGreatDoorAw8
set_option linter.unusedVariables false
set_option linter.unusedSimpArgs false
namespace Go.Proofs.YtolacfnciaimhaaGreatDoor
open Go Go.RowKit

theorem tkind_not_iface {P : Program} {t : TypeId} {d : TypeDesc} (hd : P.underlying t = some d) (h : tkind P t = .iface → False) : ∀ ms, d ≠ .interface ms := by
  rintro ms rfl
  exact h (by simp [tkind, hd])

def tzeroV (P : Program) (t : TypeId) : Option AV := (P.info? t).bind fun i => i.zero.map ofConst
theorem tzeroV_run {P : Program} {t : TypeId} {x : AV} (h : tzeroV P t = some x) (K : KW) (w : World) : ∃ z, (zeroValue t).run P w = .ok z w ∧ VR K x z := by
  unfold tzeroV at h
  obtain ⟨i, hi, h1⟩ := Option.bind_eq_some_iff.1 h
  obtain ⟨z, hz, rfl⟩ := Option.map_eq_some_iff.1 h1
  exact ⟨z, by simp [zeroValue, typeInfo, hi, hz], .ofConst K z⟩

/-- An assertion to a type that is no interface. -/
def aassert (P : Program) (x : AV) (t : TypeId) (commaOk : Bool) : Option AV := match tkind P t with
  | .iface => none
  | _ => if (P.underlying t).isSome then (match x with
    | .iface t' v => if t' = t then some (if commaOk then .tuple [v, .bool true] else v) else if commaOk then (tzeroV P t).map fun z => .tuple [z, .bool false] else none
    | .nili => if commaOk then (tzeroV P t).map fun z => .tuple [z, .bool false] else none
    | _ => none) else none
theorem VR.pair {K : KW} {x y : AV} {u v : Value} (hx : VR K x u) (hy : VR K y v) : VR K (.tuple [x, y]) (.tuple #[u, v]) := by
  have := VRs.of_list (K := K) (xs := [x, y]) (vs := [u, v]) rfl (fun i a b ea eb => by
    match i with
    | 0 => simp only [List.getElem?_cons_zero, Option.some.injEq] at ea eb; subst ea; subst eb; exact hx
    | 1 => simp only [List.getElem?_cons_succ, List.getElem?_cons_zero, Option.some.injEq] at ea eb; subst ea; subst eb; exact hy
    | i + 2 => simp at ea)
  exact .tuple _ _ this.1 this.2
theorem aassert_run {P : Program} {K : KW} {w : World} {x y : AV} {v : Value} {xT t : TypeId} {ok : Bool} (hx : VR K x v) (h : aassert P x t ok = some y) : Tells P (Instr.typeAssert v xT t ok) K w y := by
  unfold aassert at h
  split at h
  · cases h
  rename_i hk
  split at h
  case isFalse => cases h
  rename_i hs
  obtain ⟨d, hd⟩ := Option.isSome_iff_exists.1 hs
  have hni := tkind_not_iface hd hk
  split at h
  · rename_i t' v'
    cases hx with
    | iface _ _ u hu =>
      split at h
      · rename_i ht
        subst ht
        cases h
        cases ok
        · exact ⟨u, by cases d <;> first | (exact absurd rfl (hni _)) | simp [Instr.typeAssert, run_underlying hd], by simpa using hu⟩
        · exact ⟨.tuple #[u, .bool true], by cases d <;> first | (exact absurd rfl (hni _)) | simp [Instr.typeAssert, run_underlying hd], by simpa using hu.pair (.bool true)⟩
      · rename_i ht
        split at h
        case isFalse => cases h
        rename_i hok
        subst hok
        obtain ⟨z, hz, rfl⟩ := Option.map_eq_some_iff.1 h
        obtain ⟨zv, hr, hv⟩ := tzeroV_run hz K w
        exact ⟨.tuple #[zv, .bool false], by cases d <;> first | (exact absurd rfl (hni _)) | simp [Instr.typeAssert, run_underlying hd, ht, hr], hv.pair (.bool false)⟩
  · cases hx
    split at h
    case isFalse => cases h
    rename_i hok
    subst hok
    obtain ⟨z, hz, rfl⟩ := Option.map_eq_some_iff.1 h
    obtain ⟨zv, hr, hv⟩ := tzeroV_run hz K w
    exact ⟨.tuple #[zv, .bool false], by cases d <;> first | (exact absurd rfl (hni _)) | simp [Instr.typeAssert, run_underlying hd, hr], hv.pair (.bool false)⟩
  · cases h

/-! ### A text gone through -/
def arange (P : Program) (h : AHeap) (t : TypeId) (x : AV) : Option (AV × AHeap) := match tkind P t, x with
  | .str, .str s => some (.ptr h.next 0, h.push (.siter s 0))
  | _, _ => none
theorem arange_run {P : Program} {K : KW} {h h' : AHeap} {w : World} (H : HRel K h w) {t : TypeId} {x y : AV} {v : Value} (hv : VR K x v) (hx : arange P h t x = some (y, h')) : Gives P (Instr.range t v) K w y h' := by
  unfold arange at hx
  split at hx
  · rename_i s hk
    cases hx
    cases hv with
    | str s =>
      have hle : K.le (K.put h.next (some (w.heap.size, 0))) := KW.le_put (H.fresh _ (Nat.le_refl _)) _
      refine ⟨_, w.alloc (.stringIter s 0), .pointer (some ⟨w.heap.size, 0, none⟩), hle, ?_, H.new _ _ 0 ⟨_, 0, s, KW.put_same _ _ _, heap_alloc_at _ _, rfl⟩, .ptr _ 0 _ 0 (KW.put_same _ _ _), Glob.alloc w _⟩
      simp only [Instr.range, Sem.run_bind, run_underlying (tkind_str hk), Result.andThen_ok, Sem.run_pure, run_newObj]
      rfl
  · cases hx

/-- The rune at a place, and how many bytes it has. -/
def dec (s : List UInt8) (pos : Nat) : Nat × Nat := Utf8.decode ⟨s.toArray⟩ pos
def anext (h : AHeap) (x : AV) (isString : Bool) : Option (AV × AHeap) := match x, isString with
  | .ptr l 0, true => match h.get l with
    | some (.siter s pos) => if pos < s.length then some (.tuple [.bool true, .int .i64 pos, .int .i32 ((dec s pos).1 : Int)], ⟨h.next, updg h.get l (some (.siter s (pos + (dec s pos).2)))⟩)
      else some (.tuple [.bool false], h)
    | _ => none
  | _, _ => none
theorem VR.one_tuple {K : KW} {x : AV} {u : Value} (hx : VR K x u) : VR K (.tuple [x]) (.tuple #[u]) := by
  have := VRs.of_list (K := K) (xs := [x]) (vs := [u]) rfl (fun i a b ea eb => by
    match i with
    | 0 => simp only [List.getElem?_cons_zero, Option.some.injEq] at ea eb; subst ea; subst eb; exact hx
    | i + 1 => simp at ea)
  exact .tuple _ _ this.1 this.2
theorem VR.triple {K : KW} {x y z : AV} {u v t : Value} (hx : VR K x u) (hy : VR K y v) (hz : VR K z t) : VR K (.tuple [x, y, z]) (.tuple #[u, v, t]) := by
  have := VRs.of_list (K := K) (xs := [x, y, z]) (vs := [u, v, t]) rfl (fun i a b ea eb => by
    match i with
    | 0 => simp only [List.getElem?_cons_zero, Option.some.injEq] at ea eb; subst ea; subst eb; exact hx
    | 1 => simp only [List.getElem?_cons_succ, List.getElem?_cons_zero, Option.some.injEq] at ea eb; subst ea; subst eb; exact hy
    | 2 => simp only [List.getElem?_cons_succ, List.getElem?_cons_zero, Option.some.injEq] at ea eb; subst ea; subst eb; exact hz
    | i + 3 => simp at ea)
  exact .tuple _ _ this.1 this.2
theorem anext_run {P : Program} {K : KW} {h h' : AHeap} {w : World} (H : HRel K h w) {x y : AV} {v : Value} {is : Bool} {ty : TypeId} (hv : VR K x v) (hx : anext h x is = some (y, h')) : Gives P (Instr.next v is ty) K w y h' := by
  unfold anext at hx
  split at hx
  case h_2 => cases hx
  rename_i l
  split at hx
  case h_2 => cases hx
  rename_i s pos hl
  obtain ⟨b, o, ba, h1, h2, h3⟩ := H.obj l _ hl
  cases hv with
  | ptr _ _ b' o' hloc =>
    rw [h1] at hloc
    simp only [Option.some.injEq, Prod.mk.injEq] at hloc
    obtain ⟨rfl, rfl⟩ := hloc
    have hsz : ba.size = s.length := by rw [← h3]; exact Array.length_toList.symm
    have hba : ba = ⟨s.toArray⟩ := by rw [← h3]
    have hget : (getObj b).run P w = .ok (.stringIter ba pos) w := by simp [getObj, Sem.run, h2]
    split at hx
    · rename_i hlt
      cases hx
      have hd : Utf8.decode ba pos = dec s pos := by rw [hba]; rfl
      have hset : (setObj b (.stringIter ba (pos + (dec s pos).2))).run P w = .ok () { w with heap := w.heap.setIfInBounds b (.stringIter ba (pos + (dec s pos).2)) } := by
        simp [setObj, Sem.run, h2]
      have hbl := heap_lt h2
      refine ⟨K, { w with heap := w.heap.setIfInBounds b (.stringIter ba (pos + (dec s pos).2)) }, .tuple #[.bool true, .int .i64 pos, .int .i32 ((dec s pos).1 : Int)], KW.le_refl K, ?_, H.change hl h1 (fun b' hb' => ?_) ?_, .triple (.bool true) (.int _ _) (.int _ _), ⟨rfl, rfl, rfl, by simp, fun k hk => by omega⟩⟩
      · simp only [Instr.next, Sem.run_bind, hget, Result.andThen_ok, hsz, hlt, if_true, hd, hset, Sem.run_pure, goInt]
      · simp [Array.getElem?_setIfInBounds, Ne.symm hb']
      · exact ⟨b, o, ba, h1, by simp [hbl], h3⟩
    · rename_i hlt
      cases hx
      refine .still H (v := .tuple #[.bool false]) ?_ (.one_tuple (.bool false))
      simp only [Instr.next, Sem.run_bind, hget, Result.andThen_ok, hsz, hlt, if_false, Sem.run_pure]

/-! ### len, min, max -/
def alen (P : Program) (t : TypeId) (x : AV) : Option AV := match tkind P t, x with
  | .str, .str s => some (.int .i64 s.length)
  | .slice, .slice _ rows => some (.int .i64 rows.length)
  | .slice, .rslice _ n => some (.int .i64 n)
  | .slice, .nils => some (.int .i64 0)
  | _, _ => none
theorem tkind_slice {P : Program} {t : TypeId} (h : tkind P t = .slice) : ∃ e, P.underlying t = some (.slice e) := by
  unfold tkind at h
  split at h <;> first | (rename_i e he; exact ⟨_, he⟩) | cases h
theorem alen_run {P : Program} {K : KW} {w : World} {t ty : TypeId} {x y : AV} {v : Value} (hv : VR K x v) (h : alen P t x = some y) : Tells P (Builtin.len_ #[t] ty #[v]) K w y := by
  unfold alen at h
  split at h
  · rename_i s hk
    cases h
    cases hv with
    | str s =>
      refine ⟨goInt s.size, by simp [Builtin.len_, run_underlying (tkind_str hk)], ?_⟩
      rw [show s.data.toList.length = s.size from Array.length_toList]
      exact .int _ _
  · rename_i sz rows hk
    obtain ⟨e, he⟩ := tkind_slice hk
    obtain ⟨a, cap, rfl⟩ := slice_len hv
    cases h
    exact ⟨goInt rows.length, by simp [Builtin.len_, run_underlying he], .int _ _⟩
  · rename_i l n hk
    obtain ⟨e, he⟩ := tkind_slice hk
    cases h
    refine ⟨goInt n, ?_, .int _ _⟩
    cases hv <;> simp [Builtin.len_, run_underlying he]
  · rename_i hk
    obtain ⟨e, he⟩ := tkind_slice hk
    cases hv; cases h
    exact ⟨goInt 0, by simp [Builtin.len_, run_underlying he], .int _ _⟩
  · cases h

def amin2 : AV → AV → Option AV
  | .int k a, .int k' b => if k = k' then some (.int k (if b < a then b else a)) else none
  | x, y => match sread x, sread y with
    | some (k, a), some (k', b) => if k = k' then if a.2.1 ≤ b.1 then some x else if b.2.1 ≤ a.1 then some y else some (.irng k (min a.1 b.1) (min a.2.1 b.2.1)) else none
    | _, _ => none
def amax2 : AV → AV → Option AV
  | .int k a, .int k' b => if k = k' then some (.int k (if a < b then b else a)) else none
  | x, y => match sread x, sread y with
    | some (k, a), some (k', b) => if k = k' then if b.2.1 ≤ a.1 then some x else if a.2.1 ≤ b.1 then some y else some (.irng k (max a.1 b.1) (max a.2.1 b.2.1)) else none
    | _, _ => none
theorem amin2_run {P : Program} {K : KW} {w : World} {x y z : AV} {u v : Value} {ts : Array TypeId} {ty : TypeId} (hx : VR K x u) (hy : VR K y v) (h : amin2 x y = some z) : Tells P (Builtin.min_ ts ty #[u, v]) K w z := by
  unfold amin2 at h
  split at h
  · rename_i k a k' b
    cases hx; cases hy
    split at h
    · rename_i hk
      subst hk
      cases h
      exact ⟨.int k (if b < a then b else a), by simp [Builtin.min_, Builtin.min2], .int _ _⟩
    · cases h
  · split at h
    case h_2 => cases h
    rename_i k a k' b hxa hyb
    split at h
    case isFalse => cases h
    rename_i hk
    subst hk
    obtain ⟨n, rfl, hn⟩ := sread_vr hxa hx
    obtain ⟨m, rfl, hm⟩ := sread_vr hyb hy
    have hn' := hn
    have hm' := hm
    obtain ⟨n1, n2, _⟩ := hn
    obtain ⟨m1, m2, _⟩ := hm
    refine ⟨.int k (if m < n then m else n), by simp [Builtin.min_, Builtin.min2], ?_⟩
    split at h
    · cases h
      have : ¬ m < n := by omega
      rw [if_neg this]; exact hx
    · split at h
      · cases h
        by_cases hmn : m < n
        · rw [if_pos hmn]; exact hy
        · have : n = m := by omega
          rw [if_neg hmn, this]; exact hy
      · cases h
        split
        · exact .irng _ _ _ _ (by omega) (by omega)
        · exact .irng _ _ _ _ (by omega) (by omega)
theorem amax2_run {P : Program} {K : KW} {w : World} {x y z : AV} {u v : Value} {ts : Array TypeId} {ty : TypeId} (hx : VR K x u) (hy : VR K y v) (h : amax2 x y = some z) : Tells P (Builtin.max_ ts ty #[u, v]) K w z := by
  unfold amax2 at h
  split at h
  · rename_i k a k' b
    cases hx; cases hy
    split at h
    · rename_i hk
      subst hk
      cases h
      exact ⟨.int k (if a < b then b else a), by simp [Builtin.max_, Builtin.max2], .int _ _⟩
    · cases h
  · split at h
    case h_2 => cases h
    rename_i k a k' b hxa hyb
    split at h
    case isFalse => cases h
    rename_i hk
    subst hk
    obtain ⟨n, rfl, hn⟩ := sread_vr hxa hx
    obtain ⟨m, rfl, hm⟩ := sread_vr hyb hy
    obtain ⟨n1, n2, _⟩ := hn
    obtain ⟨m1, m2, _⟩ := hm
    refine ⟨.int k (if n < m then m else n), by simp [Builtin.max_, Builtin.max2], ?_⟩
    split at h
    · cases h
      have : ¬ n < m := by omega
      rw [if_neg this]; exact hx
    · split at h
      · cases h
        by_cases hmn : n < m
        · rw [if_pos hmn]; exact hy
        · have : n = m := by omega
          rw [if_neg hmn, this]; exact hy
      · cases h
        split
        · exact .irng _ _ _ _ (by omega) (by omega)
        · exact .irng _ _ _ _ (by omega) (by omega)

end Go.Proofs.YtolacfnciaimhaaGreatDoor
