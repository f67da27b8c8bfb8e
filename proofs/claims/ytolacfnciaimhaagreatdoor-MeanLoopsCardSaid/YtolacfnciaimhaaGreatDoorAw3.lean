/- What one operation does to abstract values: a function, and that the model's operation does the same. -/
import Derived.Test.YtolacfnciaimhaaGreatDoorAw2
import Derived.WalkKit
set_option linter.unusedVariables false
set_option linter.unusedSimpArgs false
namespace Go.Proofs.YtolacfnciaimhaaGreatDoor
open Go Go.RowKit

/-! ### Types -/
def isAggD : TypeDesc → Bool
  | .struct _ | .array _ _ => true
  | _ => false
/-- A type's size in cells, and whether its values are rows. -/
def tinfo (P : Program) (t : TypeId) : Option (Nat × Bool) := (P.info? t).bind fun i => (P.underlying t).map fun d => (i.size, isAggD d)
def tbytes (P : Program) (t : TypeId) : Option Nat := (P.info? t).map (·.bytes)
def tfield (P : Program) (t : TypeId) (k : Nat) : Option (Nat × TypeId) := match P.underlying t with
  | some (.struct fs) => (fs[k]?).map fun f => (f.offset, f.type)
  | _ => none
def telem (P : Program) (t : TypeId) : Option TypeId := match P.underlying t with
  | some (.slice e) => some e
  | _ => none
def tarr (P : Program) (t : TypeId) : Option (Nat × TypeId) := match P.underlying t with
  | some (.array n e) => some (n, e)
  | _ => none
inductive TK where
  | bool | int (k : IntKind) | str | ptr | iface | slice | other
def tkind (P : Program) (t : TypeId) : TK := match P.underlying t with
  | some .bool => .bool
  | some (.int k) => .int k
  | some .string => .str
  | some (.pointer _) => .ptr
  | some (.interface _) => .iface
  | some (.slice _) => .slice
  | _ => .other

theorem tinfo_run {P : Program} {t : TypeId} {n : Nat} {b : Bool} (h : tinfo P t = some (n, b)) (w : World) : (sizeOf t).run P w = .ok n w ∧ (isAgg t).run P w = .ok b w := by
  unfold tinfo at h
  obtain ⟨i, hi, h⟩ := Option.bind_eq_some_iff.1 h
  obtain ⟨d, hd, h⟩ := Option.map_eq_some_iff.1 h
  simp only [Prod.mk.injEq] at h
  refine ⟨by simp [sizeOf, typeInfo, hi, h.1], ?_⟩
  simp only [isAgg, Sem.run_bind, run_underlying hd, Result.andThen_ok]
  rw [← h.2]
  cases d <;> rfl
theorem telem_run {P : Program} {t e : TypeId} (h : telem P t = some e) : P.underlying t = some (.slice e) := by
  unfold telem at h
  split at h
  · rename_i e' he; cases h; exact he
  · cases h
theorem tarr_run {P : Program} {t e : TypeId} {n : Nat} (h : tarr P t = some (n, e)) : P.underlying t = some (.array n e) := by
  unfold tarr at h
  split at h
  · rename_i n' e' he; cases h; exact he
  · cases h

/-! ### Constants and cells -/
def ofV : Value → AV
  | .bool b => .bool b
  | .int k n => .int k n
  | .string s => .str s.data.toList
  | .pointer none => .nilp
  | .slice none 0 0 => .nils
  | .nilFunc => .nilfn
  | .nilIface => .nili
  | .map none => .nilm
  | _ => .undef
def ofConst : Value → AV
  | .agg cs => if cs.toList.all (·.oneCell') then .agg (cs.toList.map ofV) else .undef
  | v => ofV v
theorem VR.ofV (K : KW) (v : Value) : VR K (ofV v) v := by
  unfold Proofs.YtolacfnciaimhaaGreatDoor.ofV
  split <;> constructor
theorem VR.ofConst (K : KW) (v : Value) : VR K (ofConst v) v := by
  unfold Proofs.YtolacfnciaimhaaGreatDoor.ofConst
  split
  · rename_i cs
    split
    · rename_i h
      simp only [List.all_eq_true] at h
      refine .agg _ _ (by simp) (fun i hi => ?_) fun i x e => ?_
      · simp only [List.length_map, Array.length_toList] at hi
        rw [Array.getD_eq_getD_getElem?, Array.getElem?_eq_getElem hi]
        exact h _ (by simp)
      · simp only [List.getElem?_map, Option.map_eq_some_iff, Array.getElem?_toList] at e
        obtain ⟨v, hv, rfl⟩ := e
        rw [Array.getD_eq_getD_getElem?, hv]
        exact .ofV K v
    · exact .undef _
  · exact .ofV K v
/-- A type's noughts. -/
def tzero (P : Program) (t : TypeId) : Option (List AV) := (P.info? t).bind fun i => i.zero.bind fun z => if z.cells.toList.all (·.oneCell') then some (z.cells.toList.map ofV) else none
theorem tzero_run {P : Program} {t : TypeId} {zs : List AV} (h : tzero P t = some zs) (K : KW) (w : World) : ∃ z, (zeroValue t).run P w = .ok z w ∧ CellsAt K z.cells 0 zs ∧ z.cells.size = zs.length := by
  unfold tzero at h
  obtain ⟨i, hi, h⟩ := Option.bind_eq_some_iff.1 h
  obtain ⟨z, hz, h⟩ := Option.bind_eq_some_iff.1 h
  split at h
  · rename_i hone
    simp only [Option.some.injEq] at h
    subst h
    refine ⟨z, by simp [zeroValue, typeInfo, hi, hz], ?_, by simp⟩
    intro j x e
    simp only [List.getElem?_map, Option.map_eq_some_iff, Array.getElem?_toList] at e
    obtain ⟨v, hv, rfl⟩ := e
    simp only [List.all_eq_true] at hone
    exact ⟨v, by simpa using hv, hone v (by rw [← Array.getElem?_toList] at hv; exact List.mem_of_getElem? hv), .ofV K v⟩
  · cases h

def cellsOf : AV → Option (List AV)
  | .undef | .tuple _ => none
  | .agg cs => some cs
  | v => some [v]
theorem VR.one {K : KW} {x : AV} {v : Value} (h : VR K x v) (hx : cellsOf x = some [x]) (ha : ∀ cs, x ≠ .agg cs) : v.cells = #[v] ∧ v.oneCell' = true := by
  cases h <;> first | (simp [cellsOf] at hx; done) | (exact absurd rfl (ha _)) | exact ⟨rfl, rfl⟩
theorem cellsOf_run {K : KW} {x : AV} {v : Value} {xs : List AV} (h : VR K x v) (hx : cellsOf x = some xs) : CellsAt K v.cells 0 xs ∧ v.cells.size = xs.length := by
  by_cases ha : ∃ cs, x = .agg cs
  · obtain ⟨cs, rfl⟩ := ha
    simp only [cellsOf, Option.some.injEq] at hx
    subst hx
    have h' := h
    cases h' with
    | agg _ cs hn h1 hv => exact ⟨h.cells, hn⟩
  · have hx' : xs = [x] ∧ cellsOf x = some [x] := by
      cases x <;> simp_all [cellsOf]
    obtain ⟨rfl, hx⟩ := hx'
    have := h.one hx fun cs e => ha ⟨cs, e⟩
    rw [this.1]
    refine ⟨fun j y e => ?_, rfl⟩
    cases j with
    | zero =>
      simp only [List.getElem?_cons_zero, Option.some.injEq] at e
      subst e
      exact ⟨v, rfl, this.2, h⟩
    | succ j => simp at e

/-- What is read at a place of a row. -/
def getv (P : Program) (t : TypeId) (cs : List AV) (off : Nat) : Option AV :=
  match tinfo P t with
  | some (n, true) => if off + n ≤ cs.length then some (.agg ((cs.drop off).take n)) else none
  | some (_, false) => cs[off]?
  | none => none

theorem addr_add (b o n : Nat) : (⟨b, o, none⟩ : Addr).add n = ⟨b, o + n, none⟩ := by
  unfold Addr.add
  split
  · rename_i h; subst h; rfl
  · rfl
theorem cell_of {w : World} {b o : Nat} {c : Array Value} {e : TypeId} {fr : Nat × Nat} (h : w.heap[b]? = some (.cells c e fr)) : w.cell? ⟨b, o, none⟩ = c[o]? := by simp [World.cell?, h]

/-- A row in a block is read. -/
theorem getv_run {P : Program} {K : KW} {w : World} {t : TypeId} {cs : List AV} {off : Nat} {x : AV} {b o : Nat} {c : Array Value} {e : TypeId} {fr : Nat × Nat} (hg : getv P t cs off = some x)
    (hb : w.heap[b]? = some (.cells c e fr)) (hc : CellsAt K c o cs) : ∃ v, (loadVar t ⟨b, o + off, none⟩).run P w = .ok v w ∧ VR K x v := by
  unfold getv at hg
  split at hg
  · rename_i n ht
    split at hg
    · rename_i hn
      simp only [Option.some.injEq] at hg
      subst hg
      have hp := hc.part off n
      have hl : ((cs.drop off).take n).length = n := by simp; omega
      obtain ⟨g, hg, h1, hv⟩ := hp.fn
      rw [hl] at hg h1
      refine ⟨.agg ((List.range n).map g).toArray, ?_, ?_⟩
      · simp only [loadVar, Sem.run_bind, (tinfo_run ht w).1, (tinfo_run ht w).2, Result.andThen_ok, if_true]
        rw [run_loadCells w _ n g (fun j hj => by rw [addr_add, cell_of hb]; exact hg j hj)]
        rfl
      · refine hp.agg (by simp; omega) fun j hj => ?_
        rw [hl] at hj
        rw [hg j hj]
        simp [hj]
    · cases hg
  · rename_i n ht
    obtain ⟨y, hy, h1, hv⟩ := hc _ _ hg
    refine ⟨y, ?_, hv⟩
    simp only [loadVar, Sem.run_bind, (tinfo_run ht w).2, Result.andThen_ok, Bool.false_eq_true, if_false, run_load, cell_of hb, hy]
  · cases hg

/-! ### Load, store, addresses -/
def aload (P : Program) (h : AHeap) (t : TypeId) : AV → Option AV
  | .ptr l off => match h.get l with
    | some (.cells cs) => getv P t cs off
    | _ => none
  | .vptr row off => getv P t row off
  | .eptr l sz i j => match h.get l with
    | some (.arr _ sz' rows) => if sz = sz' then (match rows[i]? with | some r => getv P t r j | none => none) else none
    | _ => none
  | _ => none

theorem row_at {K : KW} {c : Array Value} {o sz : Nat} {rows : List (List AV)} (h : CellsAt K c o rows.flatten) (hs : ∀ r, r ∈ rows → r.length = sz) {i : Nat} {r : List AV} (hr : rows[i]? = some r) : CellsAt K c (o + i * sz) r :=
  fun j x e => by
    have := h _ x (flat_get hs hr e)
    rw [Nat.add_assoc]
    exact this

theorem aload_run {P : Program} {K : KW} {h : AHeap} {w : World} (H : HRel K h w) {t : TypeId} {p x : AV} {v : Value} (hp : VR K p v) (hx : aload P h t p = some x) :
    ∃ u, (Instr.loadAt t v).run P w = .ok u w ∧ VR K x u := by
  cases p <;> simp only [aload] at hx <;> try contradiction
  case ptr l off =>
    split at hx
    · rename_i cs hl
      obtain ⟨b, o, c, e, h1, h2, h3, h4⟩ := H.obj l _ hl
      cases hp with
      | ptr _ _ b' o' h' =>
        rw [h1] at h'
        simp only [Option.some.injEq, Prod.mk.injEq] at h'
        obtain ⟨rfl, rfl⟩ := h'
        obtain ⟨u, hu, hv⟩ := getv_run (P := P) hx h2 h4
        exact ⟨u, by simpa [Instr.loadAt, Instr.sureAddr] using hu, hv⟩
    · cases hx
  case vptr row off =>
    cases hp with
    | vptr _ _ b o c e fr g hb hc h1 hv =>
      obtain ⟨u, hu, hv⟩ := getv_run (P := P) hx (H.fix _ _ hb) (CellsAt.of_fn hc h1 hv)
      exact ⟨u, by simpa [Instr.loadAt, Instr.sureAddr] using hu, hv⟩
  case eptr l sz i j =>
    split at hx
    · rename_i e sz' rows hl
      split at hx
      · rename_i hsz
        subst hsz
        split at hx
        · rename_i r hr
          obtain ⟨hs, ho⟩ := H.obj l _ hl
          cases hp with
          | eptr _ _ _ _ b' o' h' =>
            rcases ho with ⟨h1, _⟩ | ⟨b, cap, c, e', h1, h2, he, h3, h4, h5, h6⟩
            · rw [h1] at h'; cases h'
            · rw [h1] at h'
              simp only [Option.some.injEq, Prod.mk.injEq] at h'
              obtain ⟨rfl, rfl⟩ := h'
              obtain ⟨u, hu, hv⟩ := getv_run (P := P) hx h2 (row_at h6 hs hr)
              exact ⟨u, by simpa [Instr.loadAt, Instr.sureAddr, Nat.add_assoc] using hu, hv⟩
        · cases hx
      · cases hx
    · cases hx

def putRow (cs : List AV) (off : Nat) (vs : List AV) : List AV := cs.take off ++ vs ++ cs.drop (off + vs.length)
theorem putRow_length {cs : List AV} {off : Nat} {vs : List AV} (h : off + vs.length ≤ cs.length) : (putRow cs off vs).length = cs.length := by simp [putRow]; omega

def astore (P : Program) (h : AHeap) (t : TypeId) (p v : AV) : Option AHeap :=
  match cellsOf v, tinfo P t with
  | some vs, some (n, _) => if vs.length = n then (match p with
    | .ptr l off => match h.get l with
      | some (.cells cs) => if off + vs.length ≤ cs.length then some ⟨h.next, updg h.get l (some (.cells (putRow cs off vs)))⟩ else none
      | _ => none
    | .eptr l sz i j => match h.get l with
      | some (.arr e sz' rows) => if sz = sz' then (match rows[i]? with
        | some r => if j + vs.length ≤ r.length then some ⟨h.next, updg h.get l (some (.arr e sz (rows.set i (putRow r j vs))))⟩ else none
        | none => none) else none
      | _ => none
    | _ => none) else none
  | _, _ => none

theorem flat_set {sz : Nat} : ∀ {rows : List (List AV)}, (∀ r, r ∈ rows → r.length = sz) → ∀ {i j : Nat} {r vs : List AV}, rows[i]? = some r → j + vs.length ≤ r.length →
    (rows.set i (putRow r j vs)).flatten = putRow rows.flatten (i * sz + j) vs
  | [], _, i, j, r, vs, hr, _ => by simp at hr
  | r0 :: rows, h, 0, j, r, vs, hr, hj => by
    simp only [List.getElem?_cons_zero, Option.some.injEq] at hr
    subst hr
    have h1 := h r0 (by simp)
    simp only [List.set_cons_zero, List.flatten_cons, putRow, Nat.zero_mul, Nat.zero_add]
    rw [List.take_append_of_le_length (by omega), List.drop_append_of_le_length (by omega)]
    simp
  | r0 :: rows, h, i + 1, j, r, vs, hr, hj => by
    have h1 := h r0 (by simp)
    have h2 := flat_set (rows := rows) (fun r hr => h r (by simp [hr])) (i := i) (by simpa using hr) hj
    rw [List.set_cons_succ, List.flatten_cons, h2, List.flatten_cons, Nat.succ_mul]
    simp only [putRow]
    rw [show i * sz + sz + j = r0.length + (i * sz + j) by omega, show r0.length + (i * sz + j) + vs.length = r0.length + (i * sz + j + vs.length) by omega]
    rw [List.take_length_add_append, List.drop_length_add_append]
    simp
theorem set_len {sz : Nat} {rows : List (List AV)} (h : ∀ r, r ∈ rows → r.length = sz) {i : Nat} {r' : List AV} (hr : r'.length = sz) : ∀ r, r ∈ rows.set i r' → r.length = sz := by
  intro r hm
  rcases List.mem_or_eq_of_mem_set hm with h1 | h1
  · exact h r h1
  · rw [h1]; exact hr

theorem astore_run {P : Program} {K : KW} {h h' : AHeap} {w : World} (H : HRel K h w) {t : TypeId} {p x : AV} {v u : Value} (hp : VR K p v) (hxu : VR K x u) (hx : astore P h t p x = some h') :
    ∃ w', (Instr.storeAt t v u).run P w = .ok () w' ∧ HRel K h' w' ∧ Glob w w' := by
  unfold astore at hx
  split at hx
  case h_2 => cases hx
  rename_i vs n ag hcells ht
  split at hx
  case isFalse => cases hx
  rename_i hn
  obtain ⟨hca, hsz⟩ := cellsOf_run hxu hcells
  have one : ∀ y ∈ u.cells.toList, y.oneCell' = true := by
    intro y hy
    obtain ⟨i, hi⟩ := List.getElem?_of_mem hy
    have hlt : i < vs.length := by
      have := (List.getElem?_eq_some_iff.1 hi).1
      simp at this; omega
    obtain ⟨z, hz, h1, _⟩ := hca i _ (List.getElem?_eq_getElem hlt)
    simp only [Nat.zero_add] at hz
    rw [← Array.getElem?_toList, hi] at hz
    cases hz; exact h1
  have store : ∀ (b o : Nat) (c : Array Value) (e : TypeId), w.heap[b]? = some (.cells c e) → o + vs.length ≤ c.size →
      (storeVar t ⟨b, o, none⟩ u).run P w = .ok () (w.setRow b (c.toList.take o ++ u.cells.toList ++ c.toList.drop (o + u.cells.toList.length)).toArray) := by
    intro b o c e hb ho
    have := run_storeCells_at (P := P) b o e u.cells.toList 0 c w hb (by simp; omega) one
    simp only [storeVar, Sem.run_bind, (tinfo_run ht w).1, Result.andThen_ok, hsz, hn, ne_eq, not_true_eq_false, if_false]
    simpa using this
  have hca' : CellsAt K u.cells.toList.toArray 0 vs := by simpa using hca
  have hul : u.cells.toList.length = vs.length := by simpa using hsz
  cases p <;> simp only at hx <;> try contradiction
  case ptr l off =>
    split at hx
    case h_2 => cases hx
    rename_i cs hl
    split at hx
    case isFalse => cases hx
    rename_i hoff
    cases hx
    obtain ⟨b, o, c, e, h1, h2, h3, h4⟩ := H.obj l _ hl
    cases hp with
    | ptr _ _ b' o' h' =>
      rw [h1] at h'
      simp only [Option.some.injEq, Prod.mk.injEq] at h'
      obtain ⟨rfl, rfl⟩ := h'
      have hst := store b off c e h2 (by omega)
      generalize hnew : (c.toList.take off ++ u.cells.toList ++ c.toList.drop (off + u.cells.toList.length)).toArray = new at hst
      refine ⟨w.setRow b new, ?_, H.change hl h1 (fun b' hb' => setRow_other w b b' _ hb') ?_, Glob.setRow w b _⟩
      · simpa [Instr.storeAt, Instr.sureAddr] using hst
      subst hnew
      · refine ⟨b, o, _, e, h1, setRow_heap w b c _ e (0, 0) h2, ?_, ?_⟩
        · rw [putRow_length hoff]; simp; omega
        · have := CellsAt.write h4 hul hca' hoff (by omega)
          simpa [putRow] using this
  case eptr l sz i j =>
    split at hx
    case h_2 => cases hx
    rename_i e sz' rows hl
    split at hx
    case isFalse => cases hx
    rename_i hss
    subst hss
    split at hx
    case h_2 => cases hx
    rename_i r hr
    split at hx
    case isFalse => cases hx
    rename_i hj
    cases hx
    obtain ⟨hs, ho⟩ := H.obj l _ hl
    cases hp with
    | eptr _ _ _ _ b' o' h' =>
      rcases ho with ⟨h1, _⟩ | ⟨b, cap, c, e', h1, h2, he, h3, h4, h5, h6⟩
      · rw [h1] at h'; cases h'
      · rw [h1] at h'
        simp only [Option.some.injEq, Prod.mk.injEq] at h'
        obtain ⟨rfl, rfl⟩ := h'
        have hrl : r.length = sz := hs r (List.mem_of_getElem? hr)
        have hil : i < rows.length := (List.getElem?_eq_some_iff.1 hr).1
        have hfl := flat_len hs
        have hb2 : i * sz + j + vs.length ≤ rows.flatten.length := by
          rw [hfl]
          have : (i + 1) * sz ≤ rows.length * sz := Nat.mul_le_mul_right _ hil
          rw [Nat.succ_mul] at this
          omega
        have hfc : rows.flatten.length ≤ c.size := by
          rw [hfl, h3]
          exact Nat.mul_le_mul_right _ h4
        have hst := store b (i * sz + j) c e' h2 (by omega)
        generalize hnew : (c.toList.take (i * sz + j) ++ u.cells.toList ++ c.toList.drop (i * sz + j + u.cells.toList.length)).toArray = new at hst
        refine ⟨w.setRow b new, ?_, H.change hl h1 (fun b' hb' => setRow_other w b b' _ hb') ?_, Glob.setRow w b _⟩
        · simpa [Instr.storeAt, Instr.sureAddr] using hst
        subst hnew
        · refine ⟨set_len hs (by rw [putRow_length hj]; exact hrl), .inr ⟨b, cap, _, e', h1, setRow_heap w b c _ e' (0, 0) h2, he, ?_, by simpa using h4, h5, ?_⟩⟩
          · simp only [List.size_toArray, List.length_append, List.length_take, List.length_drop, Array.length_toList] at hul ⊢
            omega
          · rw [flat_set hs hr hj]
            have := CellsAt.write h6 hul hca' hb2 (by omega)
            simpa [putRow] using this

end Go.Proofs.YtolacfnciaimhaaGreatDoor
