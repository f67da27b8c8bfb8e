/- What one operation does to abstract values: new variables, rows, slices; parts and places of them. -/
import Derived.Test.YtolacfnciaimhaaGreatDoorAw3
import Derived.Laws.MakeOwn
set_option linter.unusedVariables false
set_option linter.unusedSimpArgs false
namespace Go.Proofs.YtolacfnciaimhaaGreatDoor
open Go Go.RowKit

/-! ### New blocks -/
def AHeap.push (h : AHeap) (x : AObj) : AHeap := ⟨h.next + 1, updg h.get h.next (some x)⟩

theorem new_cells {K : KW} {h : AHeap} {w : World} (H : HRel K h w) (e : TypeId) {c : Array Value} {cs : List AV} (hc : CellsAt K c 0 cs) (hn : c.size = cs.length) :
    ∃ K', K.le K' ∧ HRel K' (h.push (.cells cs)) (w.alloc (.cells c e)) ∧ VR K' (.ptr h.next 0) (.pointer (some ⟨w.heap.size, 0, none⟩)) := by
  have hle : K.le (K.put h.next (some (w.heap.size, 0))) := KW.le_put (H.fresh _ (Nat.le_refl _)) _
  exact ⟨_, hle, H.new _ _ 0 ⟨_, 0, c, e, KW.put_same _ _ _, heap_alloc_at _ _, hn, hc.mono hle⟩, .ptr _ 0 _ 0 (KW.put_same _ _ _)⟩
theorem new_arr {K : KW} {h : AHeap} {w : World} (H : HRel K h w) (e : TypeId) {c : Array Value} {sz : Nat} {rows : List (List AV)} {cap : Nat} (hc : CellsAt K c 0 rows.flatten) (hn : c.size = cap * sz) (hs : ∀ r, r ∈ rows → r.length = sz)
    (hl : cap ≤ maxLen) (hcap : rows.length ≤ cap) :
    ∃ K', K.le K' ∧ HRel K' (h.push (.arr e sz rows)) (w.alloc (.cells c e)) ∧ VR K' (.rslice h.next rows.length) (.slice (some ⟨w.heap.size, 0, none⟩) rows.length cap) := by
  have hle : K.le (K.put h.next (some (w.heap.size, cap))) := KW.le_put (H.fresh _ (Nat.le_refl _)) _
  exact ⟨_, hle, H.new _ _ cap ⟨hs, .inr ⟨_, cap, c, e, KW.put_same _ _ _, heap_alloc_at _ _, .inr rfl, hn, hcap, hl, hc.mono hle⟩⟩, .rslice _ _ _ _ (KW.put_same _ _ _)⟩
theorem run_newRow {P : Program} {w : World} (e : TypeId) (c : Array Value) : (newRow e c).run P w = .ok ⟨w.heap.size, 0, none⟩ (w.alloc (.cells c e)) := rfl

/-- How an operation that gives a value is right. -/
def Gives (P : Program) (s : Sem Value) (K : KW) (w : World) (x : AV) (h' : AHeap) : Prop := ∃ K' w' v, K.le K' ∧ s.run P w = .ok v w' ∧ HRel K' h' w' ∧ VR K' x v ∧ Glob w w'
theorem Gives.still {P : Program} {s : Sem Value} {K : KW} {h : AHeap} {w : World} {x : AV} {v : Value} (H : HRel K h w) (hr : s.run P w = .ok v w) (hv : VR K x v) : Gives P s K w x h :=
  ⟨K, w, v, KW.le_refl K, hr, H, hv, Glob.refl w⟩

def aalloc (P : Program) (h : AHeap) (t : TypeId) : Option (AV × AHeap) := (tzero P t).map fun zs => (.ptr h.next 0, h.push (.cells zs))
theorem aalloc_run {P : Program} {K : KW} {h h' : AHeap} {w : World} (H : HRel K h w) {t : TypeId} {x : AV} (hx : aalloc P h t = some (x, h')) : Gives P (Instr.alloc t true (.tuple #[])) K w x h' := by
  unfold aalloc at hx
  obtain ⟨zs, hz, hx⟩ := Option.map_eq_some_iff.1 hx
  cases hx
  obtain ⟨z, hr, hc, hn⟩ := tzero_run hz K w
  obtain ⟨K', hle, H', hv⟩ := new_cells H t hc hn
  exact ⟨K', _, _, hle, by simp only [Instr.alloc, Sem.run_bind, hr, Result.andThen_ok, newVar, run_newRow, Sem.run_pure], H', hv, Glob.alloc w _⟩

def abox (h : AHeap) (x : AV) : Option (AV × AHeap) := (cellsOf x).map fun cs => (.ptr h.next 0, h.push (.cells cs))
theorem abox_run {P : Program} {K : KW} {h h' : AHeap} {w : World} (H : HRel K h w) {t : TypeId} {x y : AV} {v : Value} (hv : VR K x v) (hx : abox h x = some (y, h')) : Gives P (Instr.box t v) K w y h' := by
  unfold abox at hx
  obtain ⟨cs, hc, hx⟩ := Option.map_eq_some_iff.1 hx
  cases hx
  obtain ⟨hca, hn⟩ := cellsOf_run hv hc
  obtain ⟨K', hle, H', hv'⟩ := new_cells H t hca hn
  exact ⟨K', _, _, hle, by simp only [Instr.box, Sem.run_bind, Result.andThen_ok, newVar, run_newRow, Sem.run_pure], H', hv', Glob.alloc w _⟩

/-! ### Rows built of parts -/
def afill (place : Nat → Option (Nat × Nat)) (cells : List AV) : List (Nat × AV) → Option (List AV)
  | [] => some cells
  | (i, v) :: rest => match place i, cellsOf v with
    | some (off, size), some vs => if vs.length = size ∧ off + vs.length ≤ cells.length then afill place (putRow cells off vs) rest else none
    | _, _ => none

theorem fold_at (off : Nat) : ∀ (l : List (Value × Nat)) (cs : Array Value) (n : Nat), (∀ j v, l[j]? = some v → v.2 = n + j) → off + n + l.length ≤ cs.size →
    (l.foldl (fun cs (p : Value × Nat) => cs.setIfInBounds (off + p.2) p.1) cs).size = cs.size ∧
    ∀ k, (l.foldl (fun cs (p : Value × Nat) => cs.setIfInBounds (off + p.2) p.1) cs)[k]? = if off + n ≤ k ∧ k < off + n + l.length then (l[k - (off + n)]?).map (·.1) else cs[k]?
  | [], cs, n, _, _ => ⟨rfl, fun k => by simp; intro h1 h2; omega⟩
  | p :: l, cs, n, hp, hl => by
    have h0 : p.2 = n := by simpa using hp 0 p rfl
    simp only [List.length_cons] at hl
    have ih := fold_at off l (cs.setIfInBounds (off + p.2) p.1) (n + 1) (fun j v e => by rw [hp (j + 1) v (by simpa using e)]; omega) (by simp; omega)
    simp only [List.foldl_cons]
    refine ⟨by rw [ih.1]; simp, fun k => ?_⟩
    rw [ih.2 k]
    simp only [List.length_cons, h0]
    by_cases h1 : off + (n + 1) ≤ k ∧ k < off + (n + 1) + l.length
    · rw [if_pos h1, if_pos (by omega), show k - (off + n) = (k - (off + (n + 1))) + 1 by omega]
      simp
    · rw [if_neg h1]
      by_cases h2 : k = off + n
      · subst h2
        rw [if_pos (by omega)]
        simp [show off + n < cs.size by omega]
      · rw [if_neg (by omega)]
        simp [Array.getElem?_setIfInBounds, Ne.symm h2]

theorem fill_one {K : KW} {cs : Array Value} {xs : List AV} (hc : CellsAt K cs 0 xs) (hn : cs.size = xs.length) {v : Value} {vs : List AV} (hv : CellsAt K v.cells 0 vs) (hvn : v.cells.size = vs.length) {off : Nat} (ho : off + vs.length ≤ xs.length) :
    CellsAt K (v.cells.zipIdx.foldl (fun cs (c, j) => cs.setIfInBounds (off + j) c) cs) 0 (putRow xs off vs) ∧ (v.cells.zipIdx.foldl (fun cs (c, j) => cs.setIfInBounds (off + j) c) cs).size = (putRow xs off vs).length := by
  have hl : v.cells.zipIdx.toList.length = vs.length := by simp [hvn]
  have key := fold_at off v.cells.zipIdx.toList cs 0 (fun j p e => by
    rw [Array.getElem?_toList] at e
    rw [Array.getElem?_zipIdx] at e
    obtain ⟨a, _, rfl⟩ := Option.map_eq_some_iff.1 e
    rfl) (by rw [hl]; omega)
  rw [Array.foldl_toList, hl] at key
  refine ⟨fun j x e => ?_, by rw [putRow_length ho]; exact key.1.trans hn⟩
  unfold putRow at e
  rw [list_mid _ _ _ _ ho] at e
  have := key.2 j
  simp only [Nat.zero_add, Nat.add_zero] at this ⊢
  rw [this]
  split at e
  · rename_i hj
    rw [if_pos hj]
    obtain ⟨y, hy, h1, h2⟩ := hv _ x e
    simp only [Nat.zero_add] at hy
    exact ⟨y, by simp [hy], h1, h2⟩
  · rename_i hj
    rw [if_neg hj]
    simpa using hc _ x e

theorem afill_run {K : KW} {place place' : Nat → Option (Nat × Nat)} (hp : ∀ i p, place i = some p → place' i = some p) : ∀ (parts : List (Nat × AV)) (vals : List (Nat × Value)) (xs ys : List AV) (cs : Array Value),
    vals.map (·.1) = parts.map (·.1) → (∀ (i : Nat) p q, parts[i]? = some p → vals[i]? = some q → VR K p.2 q.2) → CellsAt K cs 0 xs → cs.size = xs.length → afill place xs parts = some ys →
    ∃ ds, Instr.fill place' cs vals = some ds ∧ CellsAt K ds 0 ys ∧ ds.size = ys.length
  | [], [], xs, ys, cs, _, _, hc, hn, hf => by
    simp only [afill, Option.some.injEq] at hf
    subst hf
    exact ⟨cs, rfl, hc, hn⟩
  | [], _ :: _, _, _, _, h, _, _, _, _ => by simp at h
  | _ :: _, [], _, _, _, h, _, _, _, _ => by simp at h
  | (i, x) :: parts, (i', v) :: vals, xs, ys, cs, hi, hv, hc, hn, hf => by
    simp only [List.map_cons, List.cons.injEq] at hi
    obtain ⟨rfl, hi⟩ := hi
    simp only [afill] at hf
    split at hf
    case h_2 => cases hf
    rename_i off size vs hpl hcl
    split at hf
    case isFalse => cases hf
    rename_i hh
    obtain ⟨hca, hvn⟩ := cellsOf_run (hv 0 _ _ rfl rfl) hcl
    obtain ⟨h1, h2⟩ := fill_one hc hn hca hvn hh.2
    obtain ⟨ds, hd, h3⟩ := afill_run hp parts vals _ ys _ hi (fun i p q e e' => hv (i + 1) p q (by simpa using e) (by simpa using e')) h1 h2 hf
    refine ⟨ds, ?_, h3⟩
    simp only [Instr.fill, hp _ _ hpl]
    have e1 : v.cells.size = size := hvn.trans hh.1
    have e2 : ¬ off + v.cells.size > cs.size := by have := hh.2; simp only at hvn; omega
    simp only [e1] at e2 ⊢
    simp only [ne_eq, not_true_eq_false, decide_false, Bool.false_or, decide_eq_true_eq, e2, if_false]
    exact hd

def tplaces (P : Program) (t : TypeId) : Option (List (Nat × Nat)) := match P.underlying t with
  | some (.struct fs) => fs.toList.mapM fun f => (P.info? f.type).map fun i => (f.offset, i.size)
  | _ => none
theorem mapM_places {P : Program} (w : World) : ∀ (fs : List Field) (ps : List (Nat × Nat)), fs.mapM (fun f => (P.info? f.type).map fun i => (f.offset, i.size)) = some ps →
    (fs.mapM fun f => do pure (f.offset, ← sizeOf f.type) : Sem (List (Nat × Nat))).run P w = .ok ps w
  | [], ps, h => by simp at h; subst h; simp
  | f :: fs, ps, h => by
    simp only [List.mapM_cons, Option.bind_eq_bind] at h
    obtain ⟨p, hp, h⟩ := Option.bind_eq_some_iff.1 h
    obtain ⟨qs, hq, h⟩ := Option.bind_eq_some_iff.1 h
    obtain ⟨i, hi, rfl⟩ := Option.map_eq_some_iff.1 hp
    cases h
    have hs : (sizeOf f.type).run P w = .ok i.size w := by simp [sizeOf, typeInfo, hi]
    simp only [List.mapM_cons, Sem.run_bind, hs, Result.andThen_ok, Sem.run_pure, mapM_places w fs qs hq]

def abuild (P : Program) (t : TypeId) (parts : List (Nat × AV)) : Option AV :=
  match tplaces P t with
  | some ps => (tzero P t).bind fun zs => (afill (ps[·]?) zs parts).map .agg
  | none => match tarr P t with
    | some (_, e) => (tinfo P e).bind fun p => (tzero P t).bind fun zs => (afill (fun i => some (i * p.1, p.1)) zs parts).map .agg
    | none => none

def PartsRel (K : KW) (parts : List (Nat × AV)) (vals : Array (Nat × Value)) : Prop := vals.toList.map (·.1) = parts.map (·.1) ∧ ∀ (i : Nat) p q, parts[i]? = some p → vals.toList[i]? = some q → VR K p.2 q.2

theorem abuild_run {P : Program} {K : KW} {w : World} {t : TypeId} {parts : List (Nat × AV)} {vals : Array (Nat × Value)} {x : AV} (hp : PartsRel K parts vals) (hx : abuild P t parts = some x) :
    ∃ v, (Instr.build t vals).run P w = .ok v w ∧ VR K x v := by
  unfold abuild at hx
  split at hx
  · rename_i ps hps
    obtain ⟨zs, hz, hx⟩ := Option.bind_eq_some_iff.1 hx
    obtain ⟨ys, hy, rfl⟩ := Option.map_eq_some_iff.1 hx
    unfold tplaces at hps
    split at hps
    case h_2 => cases hps
    rename_i fs hu
    obtain ⟨z, hr, hc, hn⟩ := tzero_run hz K w
    obtain ⟨ds, hd, h1, h2⟩ := afill_run (place' := fun i => (ps.toArray)[i]?) (fun i p h => by simpa using h) parts vals.toList zs ys z.cells hp.1 hp.2 hc hn hy
    refine ⟨.agg ds, ?_, ?_⟩
    · have hm : (fs.mapM fun f => do pure (f.offset, ← sizeOf f.type) : Sem (Array (Nat × Nat))).run P w = .ok ps.toArray w := by
        rw [Array.mapM_eq_mapM_toList]
        rw [Sem.run_map, mapM_places w fs.toList ps hps]
        rfl
      simp only [Instr.build, Sem.run_bind, hr, run_underlying hu, Result.andThen_ok, hm]
      simp only [hd]
      rfl
    · exact h1.agg h2 fun j _ => by simp
  · split at hx
    case h_2 => cases hx
    rename_i n e ha
    obtain ⟨p, hp2, hx⟩ := Option.bind_eq_some_iff.1 hx
    obtain ⟨zs, hz, hx⟩ := Option.bind_eq_some_iff.1 hx
    obtain ⟨ys, hy, rfl⟩ := Option.map_eq_some_iff.1 hx
    obtain ⟨z, hr, hc, hn⟩ := tzero_run hz K w
    obtain ⟨ds, hd, h1, h2⟩ := afill_run (fun i p h => h) parts vals.toList zs ys z.cells hp.1 hp.2 hc hn hy
    refine ⟨.agg ds, ?_, ?_⟩
    · simp only [Instr.build, Sem.run_bind, hr, run_underlying (tarr_run ha), Result.andThen_ok, (tinfo_run hp2 w).1]
      simp only [hd]
      rfl
    · exact h1.agg h2 fun j _ => by simp

/-- Rows of a slice's literal. -/
def afillR (sz : Nat) (rows : List (List AV)) : List (Nat × AV) → Option (List (List AV))
  | [] => some rows
  | (i, v) :: rest => match cellsOf v with
    | some vs => if vs.length = sz ∧ i < rows.length then afillR sz (rows.set i vs) rest else none
    | none => none
theorem afillR_fill {sz : Nat} : ∀ (parts : List (Nat × AV)) (rows out : List (List AV)), (∀ r, r ∈ rows → r.length = sz) → afillR sz rows parts = some out →
    afill (fun i => some (i * sz, sz)) rows.flatten parts = some out.flatten ∧ (∀ r, r ∈ out → r.length = sz) ∧ out.length = rows.length
  | [], rows, out, hs, h => by simp only [afillR, Option.some.injEq] at h; subst h; exact ⟨rfl, hs, rfl⟩
  | (i, v) :: parts, rows, out, hs, h => by
    simp only [afillR] at h
    split at h
    case h_2 => cases h
    rename_i vs hv
    split at h
    case isFalse => cases h
    rename_i hh
    have hr : rows[i]? = some rows[i] := List.getElem?_eq_getElem hh.2
    have hrl := hs rows[i] (List.getElem_mem _)
    have he : putRow rows[i] 0 vs = vs := by simp [putRow, hh.1, hrl]
    have hf := flat_set hs hr (j := 0) (vs := vs) (by omega)
    rw [he, Nat.add_zero] at hf
    have ih := afillR_fill parts (rows.set i vs) out (set_len hs hh.1) h
    refine ⟨?_, ih.2.1, by rw [ih.2.2]; simp⟩
    simp only [afill, hv]
    have hb : i * sz + vs.length ≤ rows.flatten.length := by
      rw [flat_len hs, hh.1]
      have : (i + 1) * sz ≤ rows.length * sz := Nat.mul_le_mul_right _ hh.2
      rw [Nat.succ_mul] at this
      exact this
    rw [if_pos ⟨hh.1, hb⟩, ← hf]
    exact ih.1

def abuildSlice (P : Program) (h : AHeap) (t : TypeId) (len : Nat) (parts : List (Nat × AV)) : Option (AV × AHeap) :=
  (telem P t).bind fun e => (tinfo P e).bind fun p => (tzero P e).bind fun zs => if len * p.1 ≤ 16777216 ∧ zs.length = p.1 ∧ 0 < p.1 then
    (afillR p.1 (List.replicate len zs) parts).map fun rows => (.rslice h.next rows.length, h.push (.arr e p.1 rows)) else none

theorem flat_rep {zs : List AV} : ∀ (n k : Nat), k < n * zs.length → (List.replicate n zs).flatten[k]? = zs[k % zs.length]?
  | 0, k, h => by simp at h
  | n + 1, k, h => by
    rw [List.replicate_succ, List.flatten_cons]
    by_cases hk : k < zs.length
    · rw [List.getElem?_append_left hk, Nat.mod_eq_of_lt hk]
    · rw [List.getElem?_append_right (by omega), flat_rep n (k - zs.length) (by rw [Nat.succ_mul] at h; omega)]
      congr 1
      rw [← Nat.mod_eq_sub_mod (by omega)]

theorem abuildSlice_run' {P : Program} {K : KW} {h h' : AHeap} {w : World} (H : HRel K h w) {t : TypeId} {len : Nat} {parts : List (Nat × AV)} {vals : Array (Nat × Value)} {x : AV} (hp : PartsRel K parts vals) (hx : abuildSlice P h t len parts = some (x, h')) :
    ∃ K' w' a rows e sz, K.le K' ∧ (Instr.buildSlice t len vals).run P w = .ok (.slice (some a) rows.length rows.length) w' ∧ HRel K' h' w' ∧ VR K' x (.slice (some a) rows.length rows.length) ∧ Glob w w' ∧ x = .rslice h.next rows.length ∧ h' = h.push (.arr e sz rows) ∧
      ∃ c, w' = w.alloc (.cells c e) ∧ a = ⟨w.heap.size, 0, none⟩ ∧ CellsAt K c 0 rows.flatten ∧ (∀ r, r ∈ rows → r.length = sz) ∧ rows.length ≤ maxLen := by
  unfold abuildSlice at hx
  obtain ⟨e, he, hx⟩ := Option.bind_eq_some_iff.1 hx
  obtain ⟨⟨sz, ag⟩, hi, hx⟩ := Option.bind_eq_some_iff.1 hx
  obtain ⟨zs, hz, hx⟩ := Option.bind_eq_some_iff.1 hx
  simp only at hx
  split at hx
  case isFalse => cases hx
  rename_i hh
  obtain ⟨rows, hf, hx⟩ := Option.map_eq_some_iff.1 hx
  cases hx
  obtain ⟨hlim, hzl, hpos⟩ := hh
  have hrep : ∀ r, r ∈ List.replicate len zs → r.length = sz := fun r hr => by rw [List.eq_of_mem_replicate hr]; exact hzl
  obtain ⟨hf1, hs, hrl⟩ := afillR_fill parts _ rows hrep hf
  simp only [List.length_replicate] at hrl
  obtain ⟨z, hr, hc, hn⟩ := tzero_run hz K w
  have hflat : (List.replicate len zs).flatten.length = len * sz := by rw [flat_len hrep]; simp
  -- the noughts
  have zero0 : CellsAt K ((Array.range (len * sz)).map (z.cells[· % z.cells.size]!)) 0 (List.replicate len zs).flatten := by
    intro j y ey
    have hj : j < len * sz := by have := (List.getElem?_eq_some_iff.1 ey).1; omega
    rw [flat_rep len j (by rw [hzl]; exact hj)] at ey
    obtain ⟨v, hv, h1, h2⟩ := hc _ y ey
    simp only [Nat.zero_add] at hv
    refine ⟨v, ?_, h1, h2⟩
    rw [hzl] at hv
    have hsz : z.cells.size = sz := by rw [hn, hzl]
    simp only [Nat.zero_add, Array.getElem?_map, Array.getElem?_range, hj, if_true, Option.map_some, hsz]
    rw [Array.getElem!_eq_getD, Array.getD_eq_getD_getElem?, hv]
    rfl
  obtain ⟨ds, hd, h1, h2⟩ := afill_run (fun i p h => h) parts vals.toList _ rows.flatten ((Array.range (len * sz)).map (z.cells[· % z.cells.size]!)) hp.1 hp.2 zero0 (by simp only [Array.size_map, Array.size_range]; omega) hf1
  have hbig : rows.length ≤ 16777216 := by
    rw [hrl]
    exact Nat.le_trans (Nat.le_mul_of_pos_right _ hpos) hlim
  obtain ⟨K', hle, H', hv⟩ := new_arr H e (cap := rows.length) h1 (by rw [h2, flat_len hs]) hs (by simp only [maxLen]; omega) (Nat.le_refl _)
  refine ⟨K', _, _, rows, e, sz, hle, ?_, H', hv, Glob.alloc w _, rfl, rfl, _, rfl, rfl, h1, hs, by simp only [maxLen]; omega⟩
  simp only [Instr.buildSlice, Sem.run_bind, run_underlying (telem_run he), Result.andThen_ok, (tinfo_run hi w).1]
  rw [if_neg (by omega)]
  by_cases h0 : len * sz = 0
  · have hl0 : len = 0 := by
      rcases Nat.eq_zero_or_pos len with h | h
      · exact h
      · exact absurd h0 (Nat.ne_of_gt (Nat.mul_pos h hpos))
    subst hl0
    simp only [Nat.zero_mul, if_true, Sem.run_pure, Result.andThen_ok, Sem.run_bind] at hd ⊢
    have e0 : (Array.map (fun i => (#[] : Array Value)[i % 0]!) (Array.range 0)) = Array.map (fun i => z.cells[i % z.cells.size]!) (Array.range 0) := by simp
    simp only [Array.size_empty, e0, hd]
    simp only [Sem.run_bind, run_newRow, Result.andThen_ok, Sem.run_pure, hrl]
  · simp only [h0, if_false, Sem.run_bind, hr, Result.andThen_ok, Sem.run_pure]
    simp only [hd]
    simp only [Sem.run_bind, run_newRow, Result.andThen_ok, Sem.run_pure, hrl]
theorem abuildSlice_run {P : Program} {K : KW} {h h' : AHeap} {w : World} (H : HRel K h w) {t : TypeId} {len : Nat} {parts : List (Nat × AV)} {vals : Array (Nat × Value)} {x : AV} (hp : PartsRel K parts vals) (hx : abuildSlice P h t len parts = some (x, h')) :
    Gives P (Instr.buildSlice t len vals) K w x h' := by
  obtain ⟨K', w', a, rows, e, sz, h1, h2, h3, h4, h5, _, _, _⟩ := abuildSlice_run' H hp hx
  exact ⟨K', w', _, h1, h2, h3, h4, h5⟩

/-! ### make([]T, n) -/
def amakeSlice (P : Program) (h : AHeap) (t : TypeId) (l c : AV) : Option (AV × AHeap) := match l, c with
  | .int _ l, .int _ c => if l = c ∧ 0 ≤ c then (telem P t).bind fun e => (tinfo P e).bind fun p => (tzero P e).bind fun zs => (tbytes P e).bind fun by_ =>
      if c.toNat * p.1 ≤ 16777216 ∧ zs.length = p.1 ∧ 0 < p.1 ∧ (by_ : Int) * c ≤ 281474976710656 then some (.rslice h.next c.toNat, h.push (.arr e p.1 (List.replicate c.toNat zs))) else none
    else none
  | _, _ => none
theorem amakeSlice_run' {P : Program} {K : KW} {h h' : AHeap} {w : World} (H : HRel K h w) {t : TypeId} {x y z : AV} {u v : Value} (hx : VR K x u) (hy : VR K y v) (hz : amakeSlice P h t x y = some (z, h')) :
    ∃ K' w' a rows e sz, K.le K' ∧ (Instr.makeSlice t u v).run P w = .ok (.slice (some a) rows.length rows.length) w' ∧ HRel K' h' w' ∧ VR K' z (.slice (some a) rows.length rows.length) ∧ Glob w w' ∧ z = .rslice h.next rows.length ∧ h' = h.push (.arr e sz rows) ∧
      ∃ c, w' = w.alloc (.cells c e) ∧ a = ⟨w.heap.size, 0, none⟩ ∧ CellsAt K c 0 rows.flatten ∧ (∀ r, r ∈ rows → r.length = sz) ∧ rows.length ≤ maxLen := by
  unfold amakeSlice at hz
  split at hz
  case h_2 => cases hz
  rename_i k l k' c
  cases hx; cases hy
  split at hz
  case isFalse => cases hz
  rename_i hlc
  obtain ⟨rfl, h0⟩ := hlc
  obtain ⟨e, he, hz⟩ := Option.bind_eq_some_iff.1 hz
  obtain ⟨⟨sz, ag⟩, hi, hz⟩ := Option.bind_eq_some_iff.1 hz
  obtain ⟨zs, hzz, hz⟩ := Option.bind_eq_some_iff.1 hz
  obtain ⟨by_, hby, hz⟩ := Option.bind_eq_some_iff.1 hz
  simp only at hz
  split at hz
  case isFalse => cases hz
  rename_i hh
  obtain ⟨hlim, hzl, hpos, hbytes⟩ := hh
  cases hz
  obtain ⟨i, hii, hi2⟩ := Option.bind_eq_some_iff.1 hi
  obtain ⟨d, hd, hi3⟩ := Option.map_eq_some_iff.1 hi2
  simp only [Prod.mk.injEq] at hi3
  have hsz := hi3.1
  have hby' : i.bytes = by_ := by
    simp only [tbytes, hii, Option.map_some, Option.some.injEq] at hby
    exact hby
  obtain ⟨zv, hr, hc, hn⟩ := tzero_run hzz K w
  have hzero : i.zero = some zv := by
    simp only [tzero, hii, Option.bind_some] at hzz
    obtain ⟨z1, hz1, _⟩ := Option.bind_eq_some_iff.1 hzz
    rw [hz1]
    simp [zeroValue, typeInfo, hii, hz1] at hr
    rw [hr]
  have hrep : ∀ r, r ∈ List.replicate l.toNat zs → r.length = sz := fun r hr => by rw [List.eq_of_mem_replicate hr]; exact hzl
  have hflat : (List.replicate l.toNat zs).flatten.length = l.toNat * sz := by rw [flat_len hrep]; simp
  have hbig : l.toNat ≤ 16777216 := Nat.le_trans (Nat.le_mul_of_pos_right _ hpos) hlim
  have zero0 : CellsAt K (madeCells zv.cells (l.toNat * sz)) 0 (List.replicate l.toNat zs).flatten := by
    intro j y ey
    have hj : j < l.toNat * sz := by have := (List.getElem?_eq_some_iff.1 ey).1; omega
    rw [flat_rep l.toNat j (by rw [hzl]; exact hj)] at ey
    obtain ⟨v, hv, h1, h2⟩ := hc _ y ey
    simp only [Nat.zero_add] at hv
    refine ⟨v, ?_, h1, h2⟩
    rw [hzl] at hv
    have hs2 : zv.cells.size = sz := by rw [hn, hzl]
    simp only [madeCells, Nat.zero_add, Array.getElem?_map, Array.getElem?_range, hj, if_true, Option.map_some, hs2]
    rw [Array.getElem!_eq_getD, Array.getD_eq_getD_getElem?, hv]
    rfl
  obtain ⟨K', hle, H', hv⟩ := new_arr H e (cap := l.toNat) zero0 (by simp [madeCells]) hrep (by simp only [maxLen]; omega) (by simp)
  have hrun := run_makeSlice w t e i zv (telem_run he) hii hzero k k' l l h0 (Int.le_refl _) (by rw [hsz]; exact hlim) (by rw [hby']; exact hbytes) (by omega)
  rw [hsz] at hrun
  refine ⟨K', _, ⟨w.heap.size, 0, none⟩, List.replicate l.toNat zs, e, sz, hle, by simpa using hrun, H', by simpa using hv, Glob.alloc w _, by simp, by simp, _, rfl, rfl, zero0, hrep, by simp only [List.length_replicate, maxLen]; omega⟩
theorem amakeSlice_run {P : Program} {K : KW} {h h' : AHeap} {w : World} (H : HRel K h w) {t : TypeId} {x y z : AV} {u v : Value} (hx : VR K x u) (hy : VR K y v) (hz : amakeSlice P h t x y = some (z, h')) :
    Gives P (Instr.makeSlice t u v) K w z h' := by
  obtain ⟨K', w', a, rows, e, sz, h1, h2, h3, h4, h5, _, _, _⟩ := amakeSlice_run' H hx hy hz
  exact ⟨K', w', _, h1, h2, h3, h4, h5⟩

end Go.Proofs.YtolacfnciaimhaaGreatDoor
