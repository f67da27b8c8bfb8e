/- An abstract machine beside the kit's model: values without addresses (rows of cells), a heap of named places, and how they stand to the model's own values and worlds. -/
import Derived.Calls
import Derived.Lib.ItoaNum
import Derived.Test.YtolacfnciaimhaaGreatDoorGood
import Derived.Tactics
import Derived.Below
import Derived.Laws.World
import Derived.Laws.Cells
import Derived.Recover
set_option linter.unusedVariables false
set_option linter.unusedSimpArgs false
namespace Go.Proofs.YtolacfnciaimhaaGreatDoor
open Go Go.RowKit

/-- Values without addresses. 'undef': nothing is known. -/
inductive AV where
  | undef
  | bool (b : Bool)
  | int (k : IntKind) (n : Int)
  | str (s : List UInt8)
  | nilp
  | ptr (l off : Nat)
  | eptr (l sz i j : Nat)
  | vptr (row : List AV) (off : Nat)
  | nils
  | slice (sz : Nat) (rows : List (List AV))
  | rslice (l n : Nat)
  | agg (cells : List AV)
  | tuple (vs : List AV)
  | fn (f : FuncId) (first caps : List AV)
  | nilfn
  | iface (t : TypeId) (v : AV)
  | nili
  | nilm
  | map (l : Nat)
  | isym (k : IntKind) (e : Nat) (lo hi : Int)
  | irng (k : IntKind) (lo hi : Int)
  | ssym (c e : Nat) (lo hi : Int)
  | fslice (sz : Nat) (rows : List (List AV))
  | ilin (e c : Nat)
  deriving Inhabited

/-- What stands at a named place. -/
inductive AObj where
  | cells (cs : List AV)
  | arr (e : TypeId) (sz : Nat) (rows : List (List AV))
  | siter (s : List UInt8) (pos : Nat)
  | frz (sz : Nat) (rows : List (List AV))
  | map (es : List (List UInt8 × AV))
  | miter (m : Nat) (seen : List (List UInt8))

structure AHeap where
  next : Nat
  get : Nat → Option AObj

def updg (g : Nat → Option AObj) (l : Nat) (o : Option AObj) : Nat → Option AObj := fun i => if i = l then o else g i
def upd (t : Nat → AV) (d : Nat) (v : AV) : Nat → AV := fun i => if i = d then v else t i

/-- Which blocks never change any more, and where the named places lie (the block, and an array's room): none: nowhere yet; some none: an array without room. -/
structure KW where
  fix : Nat → Option Obj
  frm : Nat → Option Obj
  loc : Nat → Option (Option (Nat × Nat))
  env : Nat → Int := fun i => i
  mono : ∀ i j, i < j → j < 100 → env i < env j := by intro i j h _; omega
  good : ∀ w : World, (∀ b o, frm b = some o → w.heap[b]? = some o) → SeatGood w

structure KW.le (K K' : KW) : Prop where
  left : ∀ b o, K.fix b = some o → K'.fix b = some o
  right : ∀ l x, K.loc l = some x → K'.loc l = some x
  frm : K'.frm = K.frm := by rfl
  env : K'.env = K.env := by rfl
theorem KW.le_refl (K : KW) : K.le K := ⟨fun _ _ h => h, fun _ _ h => h, rfl, rfl⟩
theorem KW.le_trans {A B C : KW} (h : A.le B) (k : B.le C) : A.le C := ⟨fun b o e => k.1 b o (h.1 b o e), fun l x e => k.2 l x (h.2 l x e), k.frm.trans h.frm, k.env.trans h.env⟩

/-- The signs of the ops, and the digits of a number: texts made of a number that is not known. -/
def signTxt : Nat → List UInt8
  | 1 => [43]
  | 2 => [45]
  | 3 => [42]
  | 4 => [38]
  | 5 => [124]
  | 6 => [94]
  | 7 => [60, 60]
  | 8 => [62, 62]
  | 9 => [60]
  | 10 => [61, 61]
  | _ => []
def digitB (i : Nat) : UInt8 := UInt8.ofNat (48 + i % 10)
def numTxt (m : Nat) : List UInt8 := if m < 10 then [digitB m] else [digitB (m / 10), digitB m]
def symTxt (c : Nat) (n : Int) : List UInt8 := match c with
  | 0 => signTxt n.toNat
  | 1 => numTxt n.toNat
  | _ => Lib.itoa n
/-- An abstract value stands for a value. -/
inductive VR (K : KW) : AV → Value → Prop
  | undef (v : Value) : VR K .undef v
  | bool (b : Bool) : VR K (.bool b) (.bool b)
  | int (k : IntKind) (n : Int) : VR K (.int k n) (.int k n)
  | str (s : ByteArray) : VR K (.str s.data.toList) (.string s)
  | nilp : VR K .nilp (.pointer none)
  | ptr (l off b o : Nat) (h : K.loc l = some (some (b, o))) : VR K (.ptr l off) (.pointer (some ⟨b, off, none⟩))
  | eptr (l sz i j b o : Nat) (h : K.loc l = some (some (b, o))) : VR K (.eptr l sz i j) (.pointer (some ⟨b, i * sz + j, none⟩))
  | vptr (row : List AV) (off b o : Nat) (c : Array Value) (e : TypeId) (fr : Nat × Nat) (g : Nat → Value) (hb : K.fix b = some (.cells c e fr))
      (hc : ∀ j, j < row.length → c[o + j]? = some (g j)) (h1 : ∀ j, j < row.length → (g j).oneCell' = true) (hv : ∀ j x, row[j]? = some x → VR K x (g j)) : VR K (.vptr row off) (.pointer (some ⟨b, o + off, none⟩))
  | nils : VR K .nils (.slice none 0 0)
  | slice0 (sz : Nat) (a : Option Addr) (cap : Nat) : VR K (.slice sz []) (.slice a 0 cap)
  | slice (sz : Nat) (rows : List (List AV)) (b o cap : Nat) (c : Array Value) (e : TypeId) (fr : Nat × Nat) (g : Nat → Value) (hb : K.fix b = some (.cells c e fr))
      (hsz : ∀ r, r ∈ rows → r.length = sz) (hc : ∀ k, k < rows.flatten.length → c[o + k]? = some (g k)) (h1 : ∀ k, k < rows.flatten.length → (g k).oneCell' = true)
      (hv : ∀ (k : Nat) (x : AV), rows.flatten[k]? = some x → VR K x (g k)) (hn : rows.length ≤ 9223372036854775807) (hcap : rows.length ≤ cap) : VR K (.slice sz rows) (.slice (some ⟨b, o, none⟩) rows.length cap)
  | rslice (l n b cap : Nat) (h : K.loc l = some (some (b, cap))) : VR K (.rslice l n) (.slice (some ⟨b, 0, none⟩) n cap)
  | rslice0 (l : Nat) (h : K.loc l = some none) : VR K (.rslice l 0) (.slice none 0 0)
  | agg (cells : List AV) (cs : Array Value) (hn : cs.size = cells.length) (h1 : ∀ i, i < cells.length → (cs.getD i undef).oneCell' = true) (hv : ∀ i x, cells[i]? = some x → VR K x (cs.getD i undef)) : VR K (.agg cells) (.agg cs)
  | tuple (vs : List AV) (cs : Array Value) (hn : cs.size = vs.length) (hv : ∀ i x, vs[i]? = some x → VR K x (cs.getD i undef)) : VR K (.tuple vs) (.tuple cs)
  | fn (f : FuncId) (first caps : List AV) (fs cs : Array Value) (hf : fs.size = first.length) (hc : cs.size = caps.length)
      (hfv : ∀ i x, first[i]? = some x → VR K x (fs.getD i undef)) (hcv : ∀ i x, caps[i]? = some x → VR K x (cs.getD i undef)) : VR K (.fn f first caps) (.func (.func f) fs cs)
  | nilfn : VR K .nilfn .nilFunc
  | iface (t : TypeId) (x : AV) (v : Value) (h : VR K x v) : VR K (.iface t x) (.iface t v)
  | nili : VR K .nili .nilIface
  | nilm : VR K .nilm (.map none)
  | map (l b o : Nat) (h : K.loc l = some (some (b, o))) : VR K (.map l) (.map (some b))
  | isym (k : IntKind) (e : Nat) (lo hi n : Int) (h : K.env e = n) (h1 : lo ≤ n) (h2 : n ≤ hi) : VR K (.isym k e lo hi) (.int k n)
  | irng (k : IntKind) (lo hi n : Int) (h1 : lo ≤ n) (h2 : n ≤ hi) : VR K (.irng k lo hi) (.int k n)
  | ssym (c e : Nat) (lo hi : Int) (s : ByteArray) (h : s.data.toList = symTxt c (K.env e)) (h1 : lo ≤ K.env e) (h2 : K.env e ≤ hi) : VR K (.ssym c e lo hi) (.string s)
  | fslice (sz : Nat) (rows : List (List AV)) (a : Option Addr) (h : VR K (.slice sz rows) (.slice a rows.length rows.length)) : VR K (.fslice sz rows) (.slice a rows.length rows.length)
  | ilin (e c : Nat) (n : Int) (h : n = ((c : Int) * K.env e) % 4294967296) : VR K (.ilin e c) (.int .u32 n)

theorem VR.mono {K K' : KW} (hk : K.le K') {x : AV} {v : Value} (h : VR K x v) : VR K' x v := by
  induction h with
  | undef v => exact .undef v
  | bool b => exact .bool b
  | int k n => exact .int k n
  | str s => exact .str s
  | nilp => exact .nilp
  | ptr l off b o h => exact .ptr l off b o (hk.2 _ _ h)
  | eptr l sz i j b o h => exact .eptr l sz i j b o (hk.2 _ _ h)
  | vptr row off b o c e fr g hb hc h1 hv ih => exact .vptr row off b o c e fr g (hk.1 _ _ hb) hc h1 ih
  | nils => exact .nils
  | slice0 sz a cap => exact .slice0 sz a cap
  | slice sz rows b o cap c e fr g hb hsz hc h1 hv hn hcap ih => exact .slice sz rows b o cap c e fr g (hk.1 _ _ hb) hsz hc h1 ih hn hcap
  | rslice l n b cap h => exact .rslice l n b cap (hk.2 _ _ h)
  | rslice0 l h => exact .rslice0 l (hk.2 _ _ h)
  | agg cells cs hn h1 hv ih => exact .agg cells cs hn h1 ih
  | tuple vs cs hn hv ih => exact .tuple vs cs hn ih
  | fn f first caps fs cs hf hc hfv hcv ih1 ih2 => exact .fn f first caps fs cs hf hc ih1 ih2
  | nilfn => exact .nilfn
  | iface t x v h ih => exact .iface t x v ih
  | nili => exact .nili
  | nilm => exact .nilm
  | map l b o h => exact .map l b o (hk.2 _ _ h)
  | isym k e lo hi n h h1 h2 => exact .isym k e lo hi n (by rw [hk.env]; exact h) h1 h2
  | irng k lo hi n h1 h2 => exact .irng k lo hi n h1 h2
  | ssym c e lo hi s h h1 h2 => exact .ssym c e lo hi s (by rw [hk.env]; exact h) (by rw [hk.env]; exact h1) (by rw [hk.env]; exact h2)
  | fslice sz rows a h ih => exact .fslice sz rows a ih
  | ilin e c n h => exact .ilin e c n (by rw [hk.env]; exact h)


/-- That it has no room is forgotten. -/
def defull : AV → AV
  | .fslice sz rows => .slice sz rows
  | x => x
theorem VR.defull {K : KW} {x : AV} {v : Value} (h : VR K x v) : VR K (Proofs.YtolacfnciaimhaaGreatDoor.defull x) v := by
  cases h <;> first | assumption | (constructor <;> assumption)
/-- A number whose bounds leave one alone. -/
def nrm : AV → AV
  | .isym k e lo hi => if lo = hi then .int k lo else .isym k e lo hi
  | .irng k lo hi => if lo = hi then .int k lo else .irng k lo hi
  | x => x
theorem VR.nrm {K : KW} {x : AV} {v : Value} (h : VR K x v) : VR K (Proofs.YtolacfnciaimhaaGreatDoor.nrm x) v := by
  cases h with
  | isym k e lo hi n h h1 h2 =>
    show VR K (if lo = hi then .int k lo else .isym k e lo hi) _
    by_cases heq : lo = hi
    · rw [if_pos heq, show n = lo by omega]
      exact .int _ _
    · rw [if_neg heq]
      exact .isym k e lo hi n h h1 h2
  | irng k lo hi n h1 h2 =>
    show VR K (if lo = hi then .int k lo else .irng k lo hi) _
    by_cases heq : lo = hi
    · rw [if_pos heq, show n = lo by omega]
      exact .int _ _
    · rw [if_neg heq]
      exact .irng k lo hi n h1 h2
  | _ => first | assumption | (constructor <;> assumption)
def VRs (K : KW) (xs : List AV) (vs : Array Value) : Prop := vs.size = xs.length ∧ ∀ i x, xs[i]? = some x → VR K x (vs.getD i undef)
/-- What stands in the place of an operation that is not wanted. -/
def AV.unit : AV := .tuple []
theorem VR.unit (K : KW) : VR K AV.unit Go.undef := .tuple [] #[] rfl (fun i x h => by simp at h)
theorem VRs.mono {K K' : KW} (hk : K.le K') {xs : List AV} {vs : Array Value} (h : VRs K xs vs) : VRs K' xs vs := ⟨h.1, fun i x e => (h.2 i x e).mono hk⟩
theorem VRs.nil (K : KW) : VRs K [] #[] := ⟨rfl, fun i x h => by simp at h⟩
theorem VRs.of_list {K : KW} {xs : List AV} {vs : List Value} (hn : vs.length = xs.length) (h : ∀ (i : Nat) x v, xs[i]? = some x → vs[i]? = some v → VR K x v) : VRs K xs vs.toArray := by
  refine ⟨by simpa using hn, fun i x e => ?_⟩
  have hi : i < xs.length := (List.getElem?_eq_some_iff.1 e).1
  have hv : vs[i]? = some vs[i] := List.getElem?_eq_getElem (by omega)
  have := h i x _ e hv
  simpa [Array.getD, show i < vs.length by omega] using this
theorem VRs.get {K : KW} {xs : List AV} {vs : Array Value} (h : VRs K xs vs) {i : Nat} {x : AV} (e : xs[i]? = some x) : ∃ v, vs[i]? = some v ∧ VR K x v := by
  have hi : i < xs.length := (List.getElem?_eq_some_iff.1 e).1
  have hi' : i < vs.size := by rw [h.1]; exact hi
  refine ⟨vs[i], by simp [hi'], ?_⟩
  have := h.2 i x e
  simpa [Array.getD, hi'] using this
theorem VRs.append {K : KW} {xs ys : List AV} {vs us : Array Value} (h : VRs K xs vs) (k : VRs K ys us) : VRs K (xs ++ ys) (vs ++ us) := by
  refine ⟨by simp [h.1, k.1], fun i x e => ?_⟩
  by_cases hi : i < xs.length
  · rw [List.getElem?_append_left hi] at e
    have := h.2 i x e
    rw [Array.getD_eq_getD_getElem?] at this ⊢
    rwa [Array.getElem?_append_left (by rw [h.1]; exact hi)]
  · rw [List.getElem?_append_right (by omega)] at e
    have := k.2 _ x e
    rw [Array.getD_eq_getD_getElem?] at this ⊢
    rwa [Array.getElem?_append_right (by rw [h.1]; omega), h.1]

/-- Cells from a place on stand for values. -/
def CellsAt (K : KW) (c : Array Value) (o : Nat) (cs : List AV) : Prop := ∀ j x, cs[j]? = some x → ∃ y, c[o + j]? = some y ∧ y.oneCell' = true ∧ VR K x y
theorem CellsAt.mono {K K' : KW} (hk : K.le K') {c : Array Value} {o : Nat} {cs : List AV} (h : CellsAt K c o cs) : CellsAt K' c o cs :=
  fun j x e => let ⟨y, a, a1, b⟩ := h j x e; ⟨y, a, a1, b.mono hk⟩
theorem CellsAt.nil (K : KW) (c : Array Value) (o : Nat) : CellsAt K c o [] := fun j x e => by simp at e
theorem CellsAt.of_fn {K : KW} {c : Array Value} {o : Nat} {cs : List AV} {g : Nat → Value} (hc : ∀ j, j < cs.length → c[o + j]? = some (g j)) (h1 : ∀ j, j < cs.length → (g j).oneCell' = true)
    (hv : ∀ j x, cs[j]? = some x → VR K x (g j)) : CellsAt K c o cs := fun j x e =>
  have hj : j < cs.length := (List.getElem?_eq_some_iff.1 e).1
  ⟨g j, hc j hj, h1 j hj, hv j x e⟩
theorem CellsAt.fn {K : KW} {c : Array Value} {o : Nat} {cs : List AV} (h : CellsAt K c o cs) :
    ∃ g : Nat → Value, (∀ j, j < cs.length → c[o + j]? = some (g j)) ∧ (∀ j, j < cs.length → (g j).oneCell' = true) ∧ ∀ j x, cs[j]? = some x → VR K x (g j) := by
  refine ⟨fun j => (c[o + j]?).getD undef, fun j hj => ?_, fun j hj => ?_, fun j x e => ?_⟩
  · obtain ⟨y, hy, _⟩ := h j _ (List.getElem?_eq_getElem hj)
    simp [hy]
  · obtain ⟨y, hy, h1, _⟩ := h j _ (List.getElem?_eq_getElem hj)
    simp [hy, h1]
  · obtain ⟨y, hy, _, hv⟩ := h j x e
    simpa [hy] using hv
/-- A part of a row. -/
theorem CellsAt.part {K : KW} {c : Array Value} {o : Nat} {cs : List AV} (h : CellsAt K c o cs) (off n : Nat) : CellsAt K c (o + off) ((cs.drop off).take n) := by
  intro j x e
  have e' : cs[off + j]? = some x := by
    rw [List.getElem?_take] at e
    split at e
    · simpa [List.getElem?_drop] using e
    · cases e
  obtain ⟨y, a, b⟩ := h _ x e'
  exact ⟨y, by rw [Nat.add_assoc]; exact a, b⟩
/-- Cells that were read are an aggregate. -/
theorem CellsAt.agg {K : KW} {c : Array Value} {o : Nat} {cs : List AV} (h : CellsAt K c o cs) {vs : Array Value} (hn : vs.size = cs.length) (hv : ∀ j, j < cs.length → vs[j]? = c[o + j]?) : VR K (.agg cs) (.agg vs) := by
  have key : ∀ i x, cs[i]? = some x → (vs.getD i undef).oneCell' = true ∧ VR K x (vs.getD i undef) := fun i x e => by
    have hi : i < cs.length := (List.getElem?_eq_some_iff.1 e).1
    obtain ⟨y, hy, h1, h2⟩ := h i x e
    rw [Array.getD_eq_getD_getElem?, hv i hi, hy]
    exact ⟨h1, h2⟩
  exact .agg cs vs hn (fun i hi => (key i _ (List.getElem?_eq_getElem hi)).1) fun i x e => (key i x e).2
theorem VR.cells {K : KW} {cs : List AV} {vs : Array Value} (h : VR K (.agg cs) (.agg vs)) : CellsAt K vs 0 cs := by
  cases h with
  | agg _ _ hn h1 hv =>
    intro j x e
    have hj : j < cs.length := (List.getElem?_eq_some_iff.1 e).1
    have h1 := h1 j hj
    have h2 := hv j x e
    rw [Array.getD_eq_getD_getElem?, Array.getElem?_eq_getElem (by omega)] at h1 h2
    exact ⟨vs[j], by simp [show j < vs.size by omega], h1, h2⟩

theorem flat_len {sz : Nat} : ∀ {rows : List (List AV)}, (∀ r, r ∈ rows → r.length = sz) → rows.flatten.length = rows.length * sz
  | [], _ => by simp
  | r :: rows, h => by
    have h1 := h r (by simp)
    have h2 := flat_len (rows := rows) (fun r hr => h r (by simp [hr]))
    simp [h1, h2, Nat.succ_mul, Nat.add_comm]
theorem flat_get {sz : Nat} : ∀ {rows : List (List AV)}, (∀ r, r ∈ rows → r.length = sz) → ∀ {i j : Nat} {r : List AV} {x : AV}, rows[i]? = some r → r[j]? = some x → rows.flatten[i * sz + j]? = some x
  | [], _, i, j, r, x, hr, _ => by simp at hr
  | r0 :: rows, h, 0, j, r, x, hr, hx => by
    simp only [List.getElem?_cons_zero, Option.some.injEq] at hr
    subst hr
    have hj : j < r0.length := (List.getElem?_eq_some_iff.1 hx).1
    simp [List.getElem?_append_left hj, hx]
  | r0 :: rows, h, i + 1, j, r, x, hr, hx => by
    have h1 := h r0 (by simp)
    have h2 := flat_get (rows := rows) (fun r hr => h r (by simp [hr])) (by simpa using hr) hx
    rw [List.flatten_cons, List.getElem?_append_right (by rw [h1, Nat.succ_mul]; omega)]
    rw [h1, show (i + 1) * sz + j - sz = i * sz + j by rw [Nat.succ_mul]; omega]
    exact h2

/-- May be changed. -/
def AObj.live : AObj → Bool
  | .frz _ _ => false
  | _ => true

/-- A map's entries, in whatever order they came. -/
def MapRel (K : KW) (es : List (List UInt8 × AV)) (ents : Array MapEntry) (clock : Nat) : Prop :=
  (es.map (·.1)).Nodup ∧ (∀ (i j : Nat) e e', ents[i]? = some e → ents[j]? = some e' → e.born = e'.born → i = j) ∧ (∀ (i : Nat) e, ents[i]? = some e → e.born < clock) ∧
    ∃ es' : List (List UInt8 × AV), es'.Perm es ∧ es'.length = ents.size ∧ ∀ (i : Nat) p e, es'[i]? = some p → ents[i]? = some e → ∃ s : ByteArray, e.key = .string s ∧ s.data.toList = p.1 ∧ VR K p.2 e.val
theorem MapRel.mono {K K' : KW} (hk : K.le K') {es : List (List UInt8 × AV)} {ents : Array MapEntry} {clock : Nat} (h : MapRel K es ents clock) : MapRel K' es ents clock := by
  obtain ⟨h1, h2, h3, es', h4, h5, h6⟩ := h
  exact ⟨h1, h2, h3, es', h4, h5, fun i p e hp he => let ⟨s, a, b, c⟩ := h6 i p e hp he; ⟨s, a, b, c.mono hk⟩⟩

/-- Neither a map nor what goes through one. -/
def AObj.plain : AObj → Bool
  | .map _ => false
  | .miter _ _ => false
  | _ => true
/-- How what goes through a map stands to the map: what it has seen. -/
def IRel (seen : List (List UInt8)) (b bm : Nat) (w : World) : Prop := ∃ since sn ents clock, w.heap[b]? = some (.mapIter (some bm) since sn clock) ∧ w.heap[bm]? = some (.map ents clock) ∧ since ≤ clock ∧
  (∀ e ∈ ents.toList, e.born < since ∧ ∀ s : ByteArray, e.key = .string s → (e.born ∈ sn ↔ s.data.toList ∈ seen)) ∧
  ∀ k rest, seen = k :: rest → ∃ st, sn.back? = some st ∧ ∀ e ∈ ents.toList, ∀ s : ByteArray, e.key = .string s → (e.born = st ↔ s.data.toList = k)
theorem IRel.keep {seen : List (List UInt8)} {b bm : Nat} {w w' : World} (h : IRel seen b bm w) (h1 : w'.heap[b]? = w.heap[b]?) (h2 : w'.heap[bm]? = w.heap[bm]?) : IRel seen b bm w' := by
  obtain ⟨since, sn, ents, clock, a1, a2, a3⟩ := h
  exact ⟨since, sn, ents, clock, by rw [h1]; exact a1, by rw [h2]; exact a2, a3⟩

def ORel (K : KW) (x : AObj) (l : Nat) (w : World) : Prop :=
  match x with
  | .cells cs => ∃ b o c e, K.loc l = some (some (b, o)) ∧ w.heap[b]? = some (.cells c e) ∧ c.size = cs.length ∧ CellsAt K c 0 cs
  | .arr e sz rows => (∀ r, r ∈ rows → r.length = sz) ∧ ((K.loc l = some none ∧ rows = []) ∨
      ∃ b cap c e', K.loc l = some (some (b, cap)) ∧ w.heap[b]? = some (.cells c e') ∧ (e = 0 ∨ e' = e) ∧ c.size = cap * sz ∧ rows.length ≤ cap ∧ cap ≤ maxLen ∧ CellsAt K c 0 rows.flatten)
  | .siter s pos => ∃ b o ba, K.loc l = some (some (b, o)) ∧ w.heap[b]? = some (.stringIter ba pos) ∧ ba.data.toList = s
  | .map es => ∃ b o ents clock, K.loc l = some (some (b, o)) ∧ w.heap[b]? = some (.map ents clock) ∧ MapRel K es ents clock
  | .miter m seen => ∃ b o bm om since sn last, K.loc l = some (some (b, o)) ∧ w.heap[b]? = some (.mapIter (some bm) since sn last) ∧ K.loc m = some (some (bm, om))
  | .frz sz rows => ∃ q, K.loc l = some q ∧ (∀ p, q = some p → ∃ o, K.fix p.1 = some o ∧ w.heap[p.1]? = some o) ∧ ∀ m v, m ≤ rows.length → VR K (.rslice l m) v → VR K (.slice sz (rows.take m)) v

/-- Blocks of others, which nothing here reaches. -/
def Framed (K : KW) (h : AHeap) (w : World) : Prop := ∀ b o, K.frm b = some o → w.heap[b]? = some o ∧ K.fix b = none ∧ ∀ l x p, h.get l = some x → x.live = true → K.loc l = some (some p) → p.1 ≠ b
structure HRel (K : KW) (h : AHeap) (w : World) : Prop where
  fix : ∀ b o, K.fix b = some o → w.heap[b]? = some o
  obj : ∀ l x, h.get l = some x → ORel K x l w
  sep : ∀ l l' x x' p p', h.get l = some x → h.get l' = some x' → x.live = true → x'.live = true → l ≠ l' → K.loc l = some (some p) → K.loc l' = some (some p') → p.1 ≠ p'.1
  nofix : ∀ l x p, h.get l = some x → x.live = true → K.loc l = some (some p) → K.fix p.1 = none
  fresh : ∀ l, h.next ≤ l → K.loc l = none
  frame : Framed K h w
  iter : ∀ l m seen es p q, h.get l = some (.miter m seen) → h.get m = some (.map es) → K.loc l = some (some p) → K.loc m = some (some q) → IRel seen p.1 q.1 w

theorem ORel.loc {K : KW} {x : AObj} {l : Nat} {w : World} (h : ORel K x l w) : ∃ p, K.loc l = some p := by
  cases x with
  | cells cs => obtain ⟨b, o, c, e, h, _⟩ := h; exact ⟨_, h⟩
  | arr e sz rows =>
    rcases h.2 with ⟨h, _⟩ | ⟨b, cap, c, e', h, _⟩
    · exact ⟨_, h⟩
    · exact ⟨_, h⟩
  | siter s pos => obtain ⟨b, o, ba, h, _⟩ := h; exact ⟨_, h⟩
  | frz sz rows => obtain ⟨q, h, _⟩ := h; exact ⟨_, h⟩
  | map es => obtain ⟨b, o, ents, clock, h, _⟩ := h; exact ⟨_, h⟩
  | miter m seen => obtain ⟨b, o, bm, om, since, sn, last, h, _⟩ := h; exact ⟨_, h⟩
theorem HRel.lt {K : KW} {h : AHeap} {w : World} (H : HRel K h w) {l : Nat} {x : AObj} (e : h.get l = some x) : l < h.next := by
  obtain ⟨p, hp⟩ := (H.obj l x e).loc
  rcases Nat.lt_or_ge l h.next with h1 | h1
  · exact h1
  · rw [H.fresh l h1] at hp; cases hp
theorem ORel.block {K : KW} {x : AObj} {l : Nat} {w : World} (h : ORel K x l w) {p : Nat × Nat} (hp : K.loc l = some (some p)) : p.1 < w.heap.size := by
  have key : ∀ {b : Nat} {o : Obj}, w.heap[b]? = some o → b < w.heap.size := fun h => (Array.getElem?_eq_some_iff.1 h).1
  cases x with
  | cells cs => obtain ⟨b, o, c, e, h, h2, _⟩ := h; rw [h] at hp; cases hp; exact key h2
  | arr e sz rows =>
    rcases h.2 with ⟨h, _⟩ | ⟨b, cap, c, e', h, h2, _⟩
    · rw [h] at hp; cases hp
    · rw [h] at hp; cases hp; exact key h2
  | siter s pos => obtain ⟨b, o, ba, h, h2, _⟩ := h; rw [h] at hp; cases hp; exact key h2
  | frz sz rows => obtain ⟨q, h, h2, _⟩ := h; rw [h] at hp; cases hp; obtain ⟨o, _, h3⟩ := h2 p rfl; exact key h3
  | map es => obtain ⟨b, o, ents, clock, h, h2, _⟩ := h; rw [h] at hp; cases hp; exact key h2
  | miter m seen => obtain ⟨b, o, bm, om, since, sn, last, h, h2, _⟩ := h; rw [h] at hp; cases hp; exact key h2
/-- An object whose block did not change stands as it stood. -/
theorem ORel.keep {K K' : KW} (hk : K.le K') {x : AObj} {l : Nat} {w w' : World} (h : ORel K x l w) (hb : ∀ p, K.loc l = some (some p) → w'.heap[p.1]? = w.heap[p.1]?) : ORel K' x l w' := by
  cases x with
  | cells cs =>
    obtain ⟨b, o, c, e, h, h2, h3, h4⟩ := h
    exact ⟨b, o, c, e, hk.2 _ _ h, by rw [hb _ h]; exact h2, h3, h4.mono hk⟩
  | arr e sz rows =>
    refine ⟨h.1, ?_⟩
    rcases h.2 with ⟨h, h2⟩ | ⟨b, cap, c, e', h, h2, he, h3, h4, h5, h6⟩
    · exact .inl ⟨hk.2 _ _ h, h2⟩
    · exact .inr ⟨b, cap, c, e', hk.2 _ _ h, by rw [hb _ h]; exact h2, he, h3, h4, h5, h6.mono hk⟩
  | siter s pos =>
    obtain ⟨b, o, ba, h, h2, h3⟩ := h
    exact ⟨b, o, ba, hk.2 _ _ h, by rw [hb _ h]; exact h2, h3⟩
  | map es =>
    obtain ⟨b, o, ents, clock, h, h2, h3⟩ := h
    exact ⟨b, o, ents, clock, hk.2 _ _ h, by rw [hb _ h]; exact h2, h3.mono hk⟩
  | miter m seen =>
    obtain ⟨b, o, bm, om, since, sn, last, h, h2, h3⟩ := h
    exact ⟨b, o, bm, om, since, sn, last, hk.2 _ _ h, by rw [hb _ h]; exact h2, hk.2 _ _ h3⟩
  | frz sz rows =>
    obtain ⟨q, h, h2, h3⟩ := h
    refine ⟨q, hk.2 _ _ h, fun p hp => ?_, fun m v hm hv => (h3 m v hm ?_).mono hk⟩
    · obtain ⟨o, ho, hw⟩ := h2 p hp
      subst hp
      exact ⟨o, hk.1 _ _ ho, by rw [hb _ h]; exact hw⟩
    · cases hv with
      | rslice _ _ b cap hl => rw [hk.2 _ _ h] at hl; cases hl; exact .rslice _ _ _ _ h
      | rslice0 _ hl => rw [hk.2 _ _ h] at hl; cases hl; exact .rslice0 _ h
/-- A block that may be changed is no other place's. -/
theorem HRel.apart {K : KW} {h : AHeap} {w : World} (H : HRel K h w) {i l : Nat} {y x : AObj} {q p : Nat × Nat} (hy : h.get i = some y) (hx : h.get l = some x) (lx : x.live = true) (hne : i ≠ l) (hq : K.loc i = some (some q)) (hp : K.loc l = some (some p)) : q.1 ≠ p.1 := by
  cases y with
  | frz sz rows =>
    obtain ⟨q', h1, h2, _⟩ := H.obj i _ hy
    rw [hq] at h1
    cases h1
    obtain ⟨o, ho, _⟩ := h2 q rfl
    intro e
    have := H.nofix l x p hx lx hp
    rw [← e, ho] at this
    cases this
  | _ => exact H.sep i l _ x q p hy hx rfl lx hne hq hp
theorem HRel.of_heap {K : KW} {h : AHeap} {w w' : World} (H : HRel K h w) (e : w'.heap = w.heap) : HRel K h w' where
  fix b o hb := by rw [e]; exact H.fix b o hb
  obj l x hx := (H.obj l x hx).keep (KW.le_refl K) (fun p _ => by rw [e])
  sep := H.sep
  nofix := H.nofix
  fresh := H.fresh
  frame b o hb := let ⟨h1, h2, h3⟩ := H.frame b o hb; ⟨by rw [e]; exact h1, h2, h3⟩
  iter l m seen es p q h1 h2 h3 h4 := (H.iter l m seen es p q h1 h2 h3 h4).keep (by rw [e]) (by rw [e])
/-- What is known may be forgotten. -/
def AHeap.sub (h h' : AHeap) : Prop := h.next = h'.next ∧ ∀ l x, h.get l = some x → h'.get l = some x
theorem HRel.sub {K : KW} {h h' : AHeap} {w : World} (H : HRel K h' w) (s : h.sub h') : HRel K h w where
  fix := H.fix
  obj l x hx := H.obj l x (s.2 l x hx)
  sep l l' x x' p p' hx hx' := H.sep l l' x x' p p' (s.2 _ _ hx) (s.2 _ _ hx')
  nofix l x p hx := H.nofix l x p (s.2 _ _ hx)
  fresh l hl := H.fresh l (by rw [← s.1]; exact hl)
  frame b o hb := let ⟨h1, h2, h3⟩ := H.frame b o hb; ⟨h1, h2, fun l x p hx => h3 l x p (s.2 _ _ hx)⟩
  iter l m seen es p q h1 h2 := H.iter l m seen es p q (s.2 _ _ h1) (s.2 _ _ h2)
theorem HRel.good {K : KW} {h : AHeap} {w : World} (H : HRel K h w) : SeatGood w := K.good w fun b o hb => (H.frame b o hb).1

end Go.Proofs.YtolacfnciaimhaaGreatDoor
