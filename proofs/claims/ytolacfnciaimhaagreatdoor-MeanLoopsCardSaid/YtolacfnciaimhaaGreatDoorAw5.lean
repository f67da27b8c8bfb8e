/- What one operation does to abstract values: parts, places, slices, an append, arrays that never change any more. -/
import Derived.Test.YtolacfnciaimhaaGreatDoorAw4
set_option linter.unusedVariables false
set_option linter.unusedSimpArgs false
namespace Go.Proofs.YtolacfnciaimhaaGreatDoor
open Go Go.RowKit

/-- An operation that leaves all as it is and gives a value. -/
def Tells (P : Program) (s : Sem Value) (K : KW) (w : World) (x : AV) : Prop := ∃ v, s.run P w = .ok v w ∧ VR K x v
theorem Tells.gives {P : Program} {s : Sem Value} {K : KW} {h : AHeap} {w : World} {x : AV} (t : Tells P s K w x) (H : HRel K h w) : Gives P s K w x h := let ⟨_, hr, hv⟩ := t; .still H hr hv

/-! ### Places -/
def padd (p : AV) (k : Nat) : Option AV := match p with
  | .ptr l off => some (.ptr l (off + k))
  | .vptr row off => some (.vptr row (off + k))
  | .eptr l sz i j => some (.eptr l sz i (j + k))
  | _ => none
theorem padd_run {K : KW} {p x : AV} {v : Value} {k : Nat} (hp : VR K p v) (hx : padd p k = some x) : ∃ a, v = .pointer (some a) ∧ VR K x (.pointer (some (a.add k))) := by
  cases p <;> simp only [padd, Option.some.injEq] at hx <;> try contradiction
  all_goals subst hx
  case ptr l off =>
    cases hp with
    | ptr _ _ b o h => exact ⟨_, rfl, by rw [addr_add]; exact .ptr l (off + k) b o h⟩
  case vptr row off =>
    cases hp with
    | vptr _ _ b o c e fr g hb hc h1 hv => exact ⟨_, rfl, by rw [addr_add, Nat.add_assoc]; exact .vptr row (off + k) b o c e fr g hb hc h1 hv⟩
  case eptr l sz i j =>
    cases hp with
    | eptr _ _ _ _ b o h => exact ⟨_, rfl, by rw [addr_add, Nat.add_assoc]; exact .eptr l sz i (j + k) b o h⟩

def afieldAddr (P : Program) (s : TypeId) (p : AV) (k : Nat) : Option AV :=
  (tfield P s k).bind fun f => match tinfo P f.2 with
    | some (n, _) => if n = 0 then none else padd p f.1
    | none => none
theorem tfield_run {P : Program} {s : TypeId} {k : Nat} {f : Nat × TypeId} (h : tfield P s k = some f) : ∃ fs g, P.underlying s = some (.struct fs) ∧ fs[k]? = some g ∧ g.offset = f.1 ∧ g.type = f.2 := by
  unfold tfield at h
  split at h
  · rename_i fs hu
    obtain ⟨g, hg, rfl⟩ := Option.map_eq_some_iff.1 h
    exact ⟨fs, g, hu, hg, rfl, rfl⟩
  · cases h
theorem afieldAddr_run {P : Program} {K : KW} {w : World} {s : TypeId} {p x : AV} {v : Value} {k : Nat} (hp : VR K p v) (hx : afieldAddr P s p k = some x) : Tells P (Instr.fieldAt s v k) K w x := by
  unfold afieldAddr at hx
  obtain ⟨f, hf, hx⟩ := Option.bind_eq_some_iff.1 hx
  split at hx
  case h_2 => cases hx
  rename_i n b hi
  split at hx
  · cases hx
  rename_i hn
  obtain ⟨fs, g, hu, hg, h1, h2⟩ := tfield_run hf
  obtain ⟨a, rfl, hv⟩ := padd_run hp hx
  have hs := (tinfo_run hi w).1
  refine ⟨_, ?_, hv⟩
  simp only [Instr.fieldAt, Sem.run_bind, run_underlying hu, Result.andThen_ok, hg, Instr.sureAddr, Sem.run_pure, fieldPlace, h2, hs, hn, if_false, h1]

/-- A part of a row by value. -/
def afield (P : Program) (s : TypeId) (x : AV) (k : Nat) : Option AV := match x with
  | .agg cs => (tfield P s k).bind fun f => getv P f.2 cs f.1
  | _ => none
theorem part_run {P : Program} {K : KW} {w : World} {t : TypeId} {cs : List AV} {vs : Array Value} {off : Nat} {x : AV} (hv : VR K (.agg cs) (.agg vs)) (hg : getv P t cs off = some x) : Tells P (part t vs off) K w x := by
  have hc := hv.cells
  have hn : vs.size = cs.length := by cases hv; assumption
  unfold getv at hg
  split at hg
  · rename_i n ht
    split at hg
    · rename_i hn2
      cases hg
      refine ⟨.agg (vs.extract off (off + n)), ?_, ?_⟩
      · simp only [part, Sem.run_bind, (tinfo_run ht w).1, (tinfo_run ht w).2, Result.andThen_ok, if_true, Sem.run_pure]
      · have hp := hc.part off n
        refine hp.agg (by simp; omega) fun j hj => ?_
        simp only [List.length_take, List.length_drop] at hj
        rw [Array.getElem?_extract]
        simp only [Nat.zero_add]
        rw [if_pos (by omega)]
    · cases hg
  · rename_i n ht
    obtain ⟨y, hy, h1, hv⟩ := hc _ _ hg
    simp only [Nat.zero_add] at hy
    refine ⟨y, ?_, hv⟩
    simp only [part, Sem.run_bind, (tinfo_run ht w).2, Result.andThen_ok, Bool.false_eq_true, if_false, hy, Sem.run_pure]
  · cases hg
theorem afield_run {P : Program} {K : KW} {w : World} {s : TypeId} {x y : AV} {v : Value} {k : Nat} (hv : VR K x v) (hx : afield P s x k = some y) : Tells P (Instr.field s v k) K w y := by
  unfold afield at hx
  split at hx
  case h_2 => cases hx
  rename_i cs
  obtain ⟨f, hf, hx⟩ := Option.bind_eq_some_iff.1 hx
  obtain ⟨fs, g, hu, hg, h1, h2⟩ := tfield_run hf
  cases hv with
  | agg _ vs hn h1' hv' =>
    obtain ⟨u, hr, hu'⟩ := part_run (P := P) (w := w) (.agg cs vs hn h1' hv') hx
    refine ⟨u, ?_, hu'⟩
    simp only [Instr.field, Sem.run_bind, run_underlying hu, Result.andThen_ok, hg, asAgg, Sem.run_pure, h1, h2, hr]

/-- A row of a slice that never changes any more. -/
theorem slice_row {K : KW} {sz : Nat} {rows : List (List AV)} {a : Option Addr} {n cap : Nat} (h : VR K (.slice sz rows) (.slice a n cap)) {i : Nat} {r : List AV} (hr : rows[i]? = some r) :
    n = rows.length ∧ ∃ b o, a = some ⟨b, o, none⟩ ∧ VR K (.vptr r 0) (.pointer (some ⟨b, o + i * sz, none⟩)) := by
  cases h with
  | slice0 => simp at hr
  | slice _ _ b o _ c e fr g hb hsz hc h1 hv hn hcap =>
    refine ⟨rfl, b, o, rfl, ?_⟩
    have hrl := hsz r (List.mem_of_getElem? hr)
    have key : ∀ j x, r[j]? = some x → rows.flatten[i * sz + j]? = some x := fun j x e => flat_get hsz hr e
    have lt : ∀ j, j < r.length → i * sz + j < rows.flatten.length := fun j hj => (List.getElem?_eq_some_iff.1 (key j _ (List.getElem?_eq_getElem hj))).1
    have := VR.vptr (K := K) r 0 b (o + i * sz) c e fr (fun j => g (i * sz + j)) hb (fun j hj => by rw [Nat.add_assoc]; exact hc _ (lt j hj)) (fun j hj => h1 _ (lt j hj)) (fun j x e => hv _ _ (key j x e))
    simpa using this
theorem slice_len {K : KW} {sz : Nat} {rows : List (List AV)} {v : Value} (h : VR K (.slice sz rows) v) : ∃ a cap, v = .slice a rows.length cap := by
  cases h with
  | slice0 => exact ⟨_, _, rfl⟩
  | slice => exact ⟨_, _, rfl⟩

def aindexAddr (P : Program) (h : AHeap) (t : TypeId) (x i : AV) : Option AV := match i with
  | .int k n => match x with
    | .slice sz rows => (telem P t).bind fun e => match tinfo P e with
      | some (m, _) => if m = sz ∧ 0 ≤ n then (match rows[n.toNat]? with | some r => some (.vptr r 0) | none => none) else none
      | none => none
    | .rslice l m => (telem P t).bind fun e => match tinfo P e, h.get l with
      | some (sz, _), some (.arr _ sz' rows) => if sz = sz' ∧ 0 ≤ n ∧ n < (m : Int) then some (.eptr l sz n.toNat 0) else none
      | some (sz, _), some (.frz sz' rows) => if sz = sz' ∧ 0 ≤ n ∧ n < (m : Int) ∧ m ≤ rows.length then (match (rows.take m)[n.toNat]? with | some r => some (.vptr r 0) | none => none) else none
      | _, _ => none
    | p => (tarr P t).bind fun q => match tinfo P q.2 with
      | some (m, _) => if 0 ≤ n ∧ n < (q.1 : Int) then padd p (n.toNat * m) else none
      | none => none
  | _ => none

theorem aindexAddr_run {P : Program} {K : KW} {h : AHeap} {w : World} (H : HRel K h w) {t : TypeId} {x i y : AV} {v u : Value} (hv : VR K x v) (hu : VR K i u) (hx : aindexAddr P h t x i = some y) : Tells P (Instr.indexAt t v u) K w y := by
  unfold aindexAddr at hx
  split at hx
  case h_2 => cases hx
  rename_i k n
  cases hu
  have arr : ∀ p : AV, VR K p v → ((tarr P t).bind fun q => match tinfo P q.2 with
      | some (m, _) => if 0 ≤ n ∧ n < (q.1 : Int) then padd p (n.toNat * m) else none
      | none => none) = some y → Tells P (Instr.indexAt t v (.int k n)) K w y := by
    intro p hp hx
    obtain ⟨q, hq, hx⟩ := Option.bind_eq_some_iff.1 hx
    split at hx
    case h_2 => cases hx
    rename_i m b hi
    split at hx
    case isFalse => cases hx
    rename_i hn
    obtain ⟨a, rfl, hv'⟩ := padd_run hp hx
    refine ⟨_, ?_, hv'⟩
    simp only [Instr.indexAt, asIntOf, Sem.run_bind, Sem.run_pure, Result.andThen_ok, run_underlying (tarr_run hq), Instr.sureAddr]
    rw [if_pos hn]
    simp only [Sem.run_bind, (tinfo_run hi w).1, Result.andThen_ok, Sem.run_pure]
  have frozen : ∀ {sz : Nat} {rows : List (List AV)} {r : List AV} {e : TypeId} {b : Bool}, VR K (.slice sz rows) v → telem P t = some e → tinfo P e = some (sz, b) → 0 ≤ n → rows[n.toNat]? = some r → Tells P (Instr.indexAt t v (.int k n)) K w (.vptr r 0) := by
    intro sz rows r e b hv he hi hn hr
    obtain ⟨a, cap, rfl⟩ := slice_len hv
    obtain ⟨_, b', o, rfl, hv'⟩ := slice_row hv hr
    have hlt : n.toNat < rows.length := (List.getElem?_eq_some_iff.1 hr).1
    refine ⟨_, ?_, hv'⟩
    simp only [Instr.indexAt, asIntOf, Sem.run_bind, Sem.run_pure, Result.andThen_ok, run_underlying (telem_run he)]
    rw [if_pos ⟨hn, by omega⟩]
    simp only [Sem.run_bind, (tinfo_run hi w).1, Result.andThen_ok, Sem.run_pure, addr_add]
  split at hx
  · rename_i sz rows
    obtain ⟨e, he, hx⟩ := Option.bind_eq_some_iff.1 hx
    split at hx
    case h_2 => cases hx
    rename_i m b hi
    split at hx
    case isFalse => cases hx
    rename_i hh
    split at hx
    case h_2 => cases hx
    rename_i r hr
    cases hx
    obtain ⟨rfl, hn⟩ := hh
    exact frozen hv he hi hn hr
  · rename_i l m
    obtain ⟨e, he, hx⟩ := Option.bind_eq_some_iff.1 hx
    split at hx
    case h_3 => cases hx
    case h_2 sz b sz' rows hi hl =>
      split at hx
      case isFalse => cases hx
      rename_i hh
      split at hx
      case h_2 => cases hx
      rename_i r hr
      cases hx
      obtain ⟨rfl, hn, hnm, hm⟩ := hh
      obtain ⟨q, _, _, h3⟩ := H.obj l _ hl
      exact frozen (h3 m v hm hv) he hi hn hr
    rename_i sz b e' sz' rows hi hl
    split at hx
    case isFalse => cases hx
    rename_i hh
    cases hx
    cases hv with
    | rslice _ _ b' cap hloc =>
      refine ⟨_, ?_, VR.eptr l sz n.toNat 0 b' cap hloc⟩
      simp only [Instr.indexAt, asIntOf, Sem.run_bind, Sem.run_pure, Result.andThen_ok, run_underlying (telem_run he)]
      rw [if_pos ⟨hh.2.1, hh.2.2⟩]
      simp only [Sem.run_bind, (tinfo_run hi w).1, Result.andThen_ok, Sem.run_pure, addr_add, Nat.add_zero, Nat.zero_add]
    | rslice0 => omega
  · exact arr _ hv hx

/-- A part by number, by value: a byte of a text, a row of an array. -/
def aindex (P : Program) (t : TypeId) (x i : AV) : Option AV := match x, i with
  | .str s, .int k n => match tkind P t with
    | .str => if 0 ≤ n then (match s[n.toNat]? with | some b => some (.int .u8 (b.toNat : Int)) | none => none) else none
    | _ => none
  | .agg cs, .int k n => (tarr P t).bind fun q => match tinfo P q.2 with
    | some (m, _) => if 0 ≤ n ∧ n < (q.1 : Int) then getv P q.2 cs (n.toNat * m) else none
    | none => none
  | _, _ => none
theorem tkind_str {P : Program} {t : TypeId} (h : tkind P t = .str) : P.underlying t = some .string := by
  unfold tkind at h
  split at h <;> first | assumption | cases h
theorem bytes_get (s : ByteArray) (i : Nat) : s[i]? = s.data[i]? := by
  by_cases h : i < s.size
  · rw [getElem?_pos s i h, getElem?_pos s.data i h]; rfl
  · rw [getElem?_neg s i h, getElem?_neg s.data i h]
theorem aindex_run {P : Program} {K : KW} {w : World} {t : TypeId} {x i y : AV} {v u : Value} (hv : VR K x v) (hu : VR K i u) (hx : aindex P t x i = some y) : Tells P (Instr.index t v u) K w y := by
  unfold aindex at hx
  split at hx
  · rename_i s k n
    cases hu
    cases hv with
    | str s =>
      split at hx
      case h_2 => cases hx
      rename_i hk
      split at hx
      case isFalse => cases hx
      rename_i hn
      split at hx
      case h_2 => cases hx
      rename_i b hb
      cases hx
      refine ⟨_, ?_, .int _ _⟩
      rw [Array.getElem?_toList, ← bytes_get] at hb
      simp only [Instr.index, asIntOf, Sem.run_bind, Sem.run_pure, Result.andThen_ok, run_underlying (tkind_str hk), hn, if_true, hb]
  · rename_i cs k n
    cases hu
    obtain ⟨q, hq, hx⟩ := Option.bind_eq_some_iff.1 hx
    split at hx
    case h_2 => cases hx
    rename_i m b hi
    split at hx
    case isFalse => cases hx
    rename_i hn
    cases hv with
    | agg _ vs hn' h1 hv' =>
      obtain ⟨z, hr, hz⟩ := part_run (P := P) (w := w) (.agg cs vs hn' h1 hv') hx
      refine ⟨z, ?_, hz⟩
      simp only [Instr.index, asIntOf, Sem.run_bind, Sem.run_pure, Result.andThen_ok, run_underlying (tarr_run hq)]
      rw [if_pos hn]
      simp only [Sem.run_bind, (tinfo_run hi w).1, Result.andThen_ok, hr]
  · cases hx

end Go.Proofs.YtolacfnciaimhaaGreatDoor
