/- Maps with texts as keys: made, asked, written. -/
import Derived.Test.YtolacfnciaimhaaGreatDoorAw9
import Derived.MapKept
import Derived.Maps.RangeRun
set_option linter.unusedVariables false
set_option linter.unusedSimpArgs false
namespace Go.Proofs.YtolacfnciaimhaaGreatDoor
open Go Go.RowKit Go.MapKept

theorem MapRel.empty (K : KW) : MapRel K [] #[] 0 := ⟨List.nodup_nil, fun i j e e' h => by simp at h, fun i e h => by simp at h, [], .refl _, rfl, fun i p e h => by simp at h⟩
def amakeMap (h : AHeap) : AV × AHeap := (.map h.next, h.push (.map []))
theorem amakeMap_run {P : Program} {K : KW} {h : AHeap} {w : World} (H : HRel K h w) (t : TypeId) : Gives P (Instr.makeMap t none) K w (amakeMap h).1 (amakeMap h).2 := by
  have hle : K.le (K.put h.next (some (w.heap.size, 0))) := KW.le_put (H.fresh _ (Nat.le_refl _)) _
  refine ⟨_, w.alloc (.map #[] 0), .map (some w.heap.size), hle, ?_, H.new (.map #[] 0) (.map []) 0 ⟨_, _, #[], 0, KW.put_same _ _ _, heap_alloc_at _ _, MapRel.empty _⟩, .map _ _ 0 (KW.put_same _ _ _), Glob.alloc w _⟩
  simp [Instr.makeMap, newObj, Sem.run]

def akv : List (List UInt8 × AV) → List UInt8 → Option AV
  | [], _ => none
  | p :: es, k => if p.1 = k then some p.2 else akv es k
theorem akv_none : ∀ {es : List (List UInt8 × AV)} {k : List UInt8}, akv es k = none → ∀ p ∈ es, p.1 ≠ k
  | [], _, _, p, h => by cases h
  | q :: es, k, hn, p, h => by
    simp only [akv] at hn
    split at hn
    · cases hn
    · rename_i hq
      rcases List.mem_cons.1 h with rfl | h
      · exact hq
      · exact akv_none hn p h
theorem akv_mem : ∀ {es : List (List UInt8 × AV)} {p : List UInt8 × AV}, (es.map (·.1)).Nodup → p ∈ es → akv es p.1 = some p.2
  | [], p, _, h => by cases h
  | q :: es, p, hn, h => by
    simp only [List.map_cons, List.nodup_cons] at hn
    simp only [akv]
    rcases List.mem_cons.1 h with rfl | h
    · rw [if_pos rfl]
    · split
      · rename_i hq
        exact absurd (List.mem_map.2 ⟨p, h, rfl⟩) (by rw [hq] at hn; exact hn.1)
      · exact akv_mem hn.2 h
/-- Where a key stands, in the model. -/
theorem MapRel.find {K : KW} {es : List (List UInt8 × AV)} {ents : Array MapEntry} {clock : Nat} (h : MapRel K es ents clock) (k : ByteArray) :
    (Instr.findNow .string (.string k) ents.toList 0 = some none ∧ akv es k.data.toList = none) ∨
      ∃ (j : Nat) (e : MapEntry) (v : AV), Instr.findNow .string (.string k) ents.toList 0 = some (some (j, e.val)) ∧ ents[j]? = some e ∧ e.key = .string k ∧ akv es k.data.toList = some v ∧ VR K v e.val := by
  obtain ⟨h1, h2, h3, es', hp, hl, hr⟩ := h
  have nd' : (es'.map (·.1)).Nodup := (hp.map _).nodup_iff.2 h1
  have at_ : ∀ (i : Nat) e, ents[i]? = some e → ∃ p, es'[i]? = some p ∧ ∃ s : ByteArray, e.key = .string s ∧ s.data.toList = p.1 ∧ VR K p.2 e.val := fun i e he => by
    have hi : i < es'.length := by rw [hl]; exact (Array.getElem?_eq_some_iff.1 he).1
    exact ⟨es'[i], List.getElem?_eq_getElem hi, hr i _ e (List.getElem?_eq_getElem hi) he⟩
  have keys : ∀ x ∈ ents.toList, IsKey .string x.key := fun x hx => by
    obtain ⟨i, hi⟩ := List.getElem?_of_mem hx
    obtain ⟨p, _, s, hs, _⟩ := at_ i x (by simpa using hi)
    rw [hs]; trivial
  rcases findNow_spec (d := .string) (k := .string k) trivial ents.toList 0 keys with ⟨ha, hb⟩ | ⟨j, e, ha, hb, hc⟩
  · refine .inl ⟨ha, ?_⟩
    cases hk : akv es k.data.toList with
    | none => rfl
    | some v =>
      exfalso
      have hex : ∃ p ∈ es, p.1 = k.data.toList := by
        false_or_by_contra
        rename_i hcon
        have : ∀ (l : List (List UInt8 × AV)), (∀ p ∈ l, p.1 ≠ k.data.toList) → akv l k.data.toList = none := by
          intro l
          induction l with
          | nil => exact fun _ => rfl
          | cons q l ih =>
            intro hh
            simp only [akv]
            rw [if_neg (hh q (by simp))]
            exact ih fun p hp => hh p (by simp [hp])
        rw [this es fun p hp he => hcon ⟨p, hp, he⟩] at hk
        cases hk
      obtain ⟨p, hpm, hpk⟩ := hex
      obtain ⟨i, hi⟩ := List.getElem?_of_mem (hp.mem_iff.2 hpm)
      have hil : i < ents.size := by rw [← hl]; exact (List.getElem?_eq_some_iff.1 hi).1
      obtain ⟨s, hs, hsk, _⟩ := hr i p ents[i] hi (by simp [hil])
      have hmem : ents[i] ∈ ents.toList := by simp
      refine hb _ hmem ?_
      rw [hs]
      congr 1
      have : s.data = k.data := Array.toList_inj.1 (hsk.trans hpk)
      cases s; cases k; simp_all
  · simp only [Nat.zero_add] at ha
    have hb' : ents[j]? = some e := by simpa using hb
    obtain ⟨p, hpj, s, hs, hsk, hv⟩ := at_ j e hb'
    rw [hc] at hs
    cases hs
    refine .inr ⟨j, e, p.2, ha, hb', hc, ?_, hv⟩
    rw [hsk]
    exact akv_mem h1 (hp.mem_iff.1 (List.mem_of_getElem? hpj))

def tmap (P : Program) (t : TypeId) : Option (TypeId × TypeId) := match P.underlying t with
  | some (.map k e) => some (k, e)
  | _ => none
def tzv (P : Program) (t : TypeId) : Option AV := (P.info? t).bind fun i => i.zero.map ofConst
theorem tzv_run {P : Program} {t : TypeId} {x : AV} (h : tzv P t = some x) (K : KW) (w : World) : ∃ z, (zeroValue t).run P w = .ok z w ∧ VR K x z := by
  obtain ⟨i, hi, h⟩ := Option.bind_eq_some_iff.1 h
  obtain ⟨z, hz, rfl⟩ := Option.map_eq_some_iff.1 h
  exact ⟨z, by simp [zeroValue, typeInfo, hi, hz, Result.andThen], VR.ofConst K z⟩
def okv (ok : Bool) (v : AV) (b : Bool) : AV := if ok then .tuple [v, .bool b] else v
theorem okv_run {K : KW} (ok : Bool) {v : AV} {u : Value} (h : VR K v u) (b : Bool) : VR K (okv ok v b) (if ok then .tuple #[u, .bool b] else u) := by
  cases ok with
  | false => exact h
  | true =>
    refine .tuple _ _ rfl fun i x e => ?_
    match i, e with
    | 0, e => simp at e; subst e; exact h
    | 1, e => simp at e; subst e; exact .bool b
    | i + 2, e => simp at e
def alookup (P : Program) (h : AHeap) (t : TypeId) (x k : AV) (ok : Bool) : Option AV := (tmap P t).bind fun q => match tkind P q.1, k with
  | .str, .str s => match x with
    | .nilm => (tzv P q.2).map fun z => okv ok z false
    | .map l => match h.get l with
      | some (.map es) => match akv es s with
        | some v => some (okv ok v true)
        | none => (tzv P q.2).map fun z => okv ok z false
      | _ => none
    | _ => none
  | _, _ => none
theorem alookup_run {P : Program} {K : KW} {h : AHeap} {w : World} (H : HRel K h w) {t : TypeId} {x k y : AV} {v u : Value} {ok : Bool} (hx : VR K x v) (hk : VR K k u) (hy : alookup P h t x k ok = some y) : Tells P (Instr.lookup t v u ok) K w y := by
  unfold alookup at hy
  obtain ⟨⟨kt, et⟩, hq, hy'⟩ := Option.bind_eq_some_iff.1 hy
  clear hy
  have hy := hy'
  clear hy'
  have ht : P.underlying t = some (.map kt et) := by
    unfold tmap at hq
    split at hq
    · cases hq; assumption
    · cases hq
  simp only at hy
  split at hy
  case h_2 => cases hy
  rename_i s hkt
  have hks := tkind_str hkt
  generalize hgs : AV.str s = ks at hk
  cases hk <;> cases hgs
  rename_i b
  have hkey : IsKey .string (.string b) := trivial
  split at hy
  · cases hx
    obtain ⟨z, hz, rfl⟩ := Option.map_eq_some_iff.1 hy
    obtain ⟨zv, hr, hv⟩ := tzv_run hz K w
    refine ⟨_, ?_, okv_run ok hv false⟩
    simp only [Instr.lookup, Sem.run_bind, run_underlying ht, Result.andThen_ok, Sem.run_pure, run_checkKey hks hkey, run_findKey (l := []) hks (a := none) rfl, hr]
  · rename_i l
    split at hy
    case h_2 => cases hy
    rename_i es hl
    obtain ⟨b', o, ents, clock, h1, h2, h3⟩ := H.obj l _ hl
    cases hx with
    | map _ b2 o2 hloc =>
      rw [h1] at hloc
      simp only [Option.some.injEq, Prod.mk.injEq] at hloc
      obtain ⟨rfl, rfl⟩ := hloc
      rcases h3.find b with ⟨ha, hn⟩ | ⟨j, e, vv, ha, hb, hc, hs, hv⟩
      · rw [hn] at hy
        simp only at hy
        obtain ⟨z, hz, rfl⟩ := Option.map_eq_some_iff.1 hy
        obtain ⟨zv, hr, hv⟩ := tzv_run hz K w
        refine ⟨_, ?_, okv_run ok hv false⟩
        simp only [Instr.lookup, Sem.run_bind, run_underlying ht, Result.andThen_ok, Sem.run_pure, Go.MapKept.run_getObj_map h2, run_checkKey hks hkey, run_findKey hks ha, hr]
      · rw [hs] at hy
        simp only [Option.some.injEq] at hy
        subst hy
        refine ⟨_, ?_, okv_run ok hv true⟩
        simp only [Instr.lookup, Sem.run_bind, run_underlying ht, Result.andThen_ok, Sem.run_pure, Go.MapKept.run_getObj_map h2, run_checkKey hks hkey, run_findKey hks ha]
  · cases hy

/-- The order of keys. -/
def ltB : List UInt8 → List UInt8 → Bool
  | _, [] => false
  | [], _ :: _ => true
  | a :: xs, b :: ys => if Nat.blt a.toNat b.toNat then true else if Nat.beq a.toNat b.toNat then ltB xs ys else false
/-- A key's value is laid in, in the keys' order. -/
def ains : List (List UInt8 × AV) → List UInt8 → AV → List (List UInt8 × AV)
  | [], k, v => [(k, v)]
  | p :: es, k, v => if ltB k p.1 then (k, v) :: p :: es else p :: ains es k v
theorem ains_perm : ∀ (es : List (List UInt8 × AV)) (k : List UInt8) (v : AV), (ains es k v).Perm (es ++ [(k, v)])
  | [], _, _ => .refl _
  | p :: es, k, v => by
    simp only [ains]
    split
    · exact (List.perm_append_singleton (k, v) (p :: es)).symm
    · exact (ains_perm es k v).cons p
/-- A key's value is written over the old one. -/
def aover (es : List (List UInt8 × AV)) (k : List UInt8) (v : AV) : List (List UInt8 × AV) := es.map fun p => if p.1 = k then (k, v) else p
theorem aover_keys (es : List (List UInt8 × AV)) (k : List UInt8) (v : AV) : (aover es k v).map (·.1) = es.map (·.1) := by
  unfold aover
  rw [List.map_map]
  refine List.map_congr_left fun p _ => ?_
  simp only [Function.comp_apply]
  split
  · rename_i h; exact h.symm
  · rfl

theorem str_eq {s k : ByteArray} (h : s.data.toList = k.data.toList) : s = k := by
  have : s.data = k.data := Array.toList_inj.1 h
  cases s; cases k; simp_all
theorem nodup_at {es : List (List UInt8 × AV)} (h : (es.map (·.1)).Nodup) {i j : Nat} {p q : List UInt8 × AV} (hp : es[i]? = some p) (hq : es[j]? = some q) (e : p.1 = q.1) : i = j := by
  have hi : i < (es.map (·.1)).length := by simpa using (List.getElem?_eq_some_iff.1 hp).1
  have hj : j < (es.map (·.1)).length := by simpa using (List.getElem?_eq_some_iff.1 hq).1
  refine (List.getElem_inj (h₀ := hi) (h₁ := hj) h).1 ?_
  have e1 : (es.map (·.1))[i]? = some p.1 := by simp [hp]
  have e2 : (es.map (·.1))[j]? = some q.1 := by simp [hq]
  rw [List.getElem?_eq_getElem hi] at e1
  rw [List.getElem?_eq_getElem hj] at e2
  simp only [Option.some.injEq] at e1 e2
  rw [e1, e2, e]
/-- An old key's value is written. -/
theorem MapRel.modify {K : KW} {es : List (List UInt8 × AV)} {ents : Array MapEntry} {clock : Nat} (h : MapRel K es ents clock) {k : ByteArray} {j : Nat} {e : MapEntry} {w v : AV} {u : Value}
    (hj : ents[j]? = some e) (hk : e.key = .string k) (ha : akv es k.data.toList = some w) (hv : VR K v u) : MapRel K (aover es k.data.toList v) (ents.modify j fun e => { e with key := .string k, val := u }) clock := by
  obtain ⟨h1, h2, h3, es', hp, hl, hr⟩ := h
  have nd' : (es'.map (·.1)).Nodup := (hp.map _).nodup_iff.2 h1
  have hjs : j < ents.size := (Array.getElem?_eq_some_iff.1 hj).1
  have key : ∀ (i : Nat) x, (ents.modify j fun e => { e with key := .string k, val := u })[i]? = some x → ∃ y, ents[i]? = some y ∧ x.born = y.born ∧ (i = j → x = { y with key := .string k, val := u }) ∧ (i ≠ j → x = y) := fun i x hx => by
    rw [Array.getElem?_modify] at hx
    split at hx
    · rename_i hi
      subst hi
      rw [hj] at hx
      simp only [Option.map_some, Option.some.injEq] at hx
      subst hx
      exact ⟨e, hj, rfl, fun _ => rfl, fun h => absurd rfl h⟩
    · rename_i hi
      exact ⟨x, hx, rfl, fun h => absurd h.symm hi, fun _ => rfl⟩
  have hjp : ∃ p, es'[j]? = some p ∧ p.1 = k.data.toList := by
    have hjl : j < es'.length := by omega
    obtain ⟨s, hs, hsk, _⟩ := hr j es'[j] e (List.getElem?_eq_getElem hjl) hj
    rw [hk] at hs
    cases hs
    exact ⟨_, List.getElem?_eq_getElem hjl, hsk.symm⟩
  obtain ⟨pj, hpj, hpk⟩ := hjp
  refine ⟨by rw [aover_keys]; exact h1, fun i i' x x' hx hx' hb => ?_, fun i x hx => ?_, es'.map fun p => if p.1 = k.data.toList then (k.data.toList, v) else p, ?_, by simp [hl], fun i p x hpi hx => ?_⟩
  · obtain ⟨y, hy, b1, _⟩ := key i x hx
    obtain ⟨y', hy', b2, _⟩ := key i' x' hx'
    exact h2 i i' y y' hy hy' (by rw [← b1, ← b2]; exact hb)
  · obtain ⟨y, hy, b1, _⟩ := key i x hx
    rw [b1]; exact h3 i y hy
  · exact hp.map _
  · obtain ⟨y, hy, _, c1, c2⟩ := key i x hx
    simp only [List.getElem?_map, Option.map_eq_some_iff] at hpi
    obtain ⟨q, hq, rfl⟩ := hpi
    by_cases hi : i = j
    · subst hi
      rw [hpj] at hq
      cases hq
      rw [c1 rfl, if_pos hpk]
      exact ⟨k, rfl, rfl, hv⟩
    · rw [c2 hi, if_neg fun e => hi (nodup_at nd' hq hpj (by rw [e, hpk]))]
      exact hr i q y hq hy
/-- A new key is laid in. -/
theorem MapRel.push {K : KW} {es : List (List UInt8 × AV)} {ents : Array MapEntry} {clock : Nat} (h : MapRel K es ents clock) {k : ByteArray} {v : AV} {u : Value}
    (ha : akv es k.data.toList = none) (hv : VR K v u) : MapRel K (ains es k.data.toList v) (ents.push { key := .string k, val := u, born := clock }) (clock + 1) := by
  obtain ⟨h1, h2, h3, es', hp, hl, hr⟩ := h
  have old : ∀ (i : Nat) x, (ents.push { key := .string k, val := u, born := clock })[i]? = some x → (ents[i]? = some x ∧ i < ents.size) ∨ (i = ents.size ∧ x = { key := .string k, val := u, born := clock }) := fun i x hx => by
    rw [Array.getElem?_push] at hx
    split at hx
    · rename_i hi; cases hx; exact .inr ⟨hi, rfl⟩
    · exact .inl ⟨hx, (Array.getElem?_eq_some_iff.1 hx).1⟩
  refine ⟨?_, fun i i' x x' hx hx' hb => ?_, fun i x hx => ?_, es' ++ [(k.data.toList, v)], (hp.append_right _).trans (ains_perm es _ _).symm, by simp [hl], fun i p x hpi hx => ?_⟩
  · rw [((ains_perm es _ _).map _).nodup_iff, List.map_append, List.nodup_append]
    refine ⟨h1, by simp, fun a ha' b hb => ?_⟩
    simp only [List.map_cons, List.map_nil, List.mem_singleton] at hb
    obtain ⟨p, hpm, rfl⟩ := List.mem_map.1 ha'
    subst hb
    exact akv_none ha p hpm
  · rcases old i x hx with ⟨g1, g2⟩ | ⟨g1, g2⟩ <;> rcases old i' x' hx' with ⟨f1, f2⟩ | ⟨f1, f2⟩
    · exact h2 i i' x x' g1 f1 hb
    · have := h3 i x g1; subst f2; simp only at hb; omega
    · have := h3 i' x' f1; subst g2; simp only at hb; omega
    · omega
  · rcases old i x hx with ⟨g1, g2⟩ | ⟨g1, g2⟩
    · have := h3 i x g1; omega
    · subst g2; simp
  · rcases old i x hx with ⟨g1, g2⟩ | ⟨g1, g2⟩
    · rw [List.getElem?_append_left (by omega)] at hpi
      exact hr i p x hpi g1
    · subst g2; subst g1
      rw [List.getElem?_append_right (by omega), hl, Nat.sub_self] at hpi
      cases hpi
      exact ⟨k, rfl, rfl, hv⟩
theorem perm_erase {α : Type} : ∀ {l : List α} {j : Nat} (h : j < l.length), l.Perm (l[j] :: l.eraseIdx j)
  | a :: l, 0, h => by simp
  | a :: l, j + 1, h => by
    simp only [List.getElem_cons_succ, List.eraseIdx_cons_succ]
    exact ((perm_erase (by simpa using h)).cons a).trans (.swap _ _ _)
def akdel (es : List (List UInt8 × AV)) (k : List UInt8) : List (List UInt8 × AV) := es.filter fun p => !decide (p.1 = k)
/-- A key is taken out. -/
theorem MapRel.erase {K : KW} {es : List (List UInt8 × AV)} {ents : Array MapEntry} {clock : Nat} (h : MapRel K es ents clock) {k : ByteArray} {j : Nat} {e : MapEntry}
    (hj : ents[j]? = some e) (hk : e.key = .string k) : MapRel K (akdel es k.data.toList) (ents.eraseIdxIfInBounds j) clock := by
  obtain ⟨h1, h2, h3, es', hp, hl, hr⟩ := h
  have nd' : (es'.map (·.1)).Nodup := (hp.map _).nodup_iff.2 h1
  have hjs : j < ents.size := (Array.getElem?_eq_some_iff.1 hj).1
  have hjl : j < es'.length := by omega
  have hpk : es'[j].1 = k.data.toList := by
    obtain ⟨s, hs, hsk, _⟩ := hr j es'[j] e (List.getElem?_eq_getElem hjl) hj
    rw [hk] at hs
    cases hs
    exact hsk.symm
  have at_ : ∀ i : Nat, (ents.eraseIdxIfInBounds j)[i]? = ents[if i < j then i else i + 1]? := fun i => by
    simp only [Array.eraseIdxIfInBounds, hjs, dif_pos]
    rw [Array.getElem?_eraseIdx]
    split <;> rfl
  have pe : es'.Perm (es'[j] :: es'.eraseIdx j) := perm_erase hjl
  refine ⟨?_, fun i i' x x' hx hx' hb => ?_, fun i x hx => ?_, es'.eraseIdx j, ?_, ?_, fun i p x hpi hx => ?_⟩
  · exact List.Nodup.sublist (List.Sublist.map _ List.filter_sublist) h1
  · rw [at_] at hx hx'
    have := h2 _ _ x x' hx hx' hb
    split at this <;> split at this <;> omega
  · rw [at_] at hx; exact h3 _ x hx
  · have nd2 : ((es'[j] :: es'.eraseIdx j).map (·.1)).Nodup := (pe.map _).nodup_iff.1 nd'
    simp only [List.map_cons, List.nodup_cons] at nd2
    have e1 : (es'.eraseIdx j).filter (fun p => !decide (p.1 = k.data.toList)) = es'.eraseIdx j := by
      rw [List.filter_eq_self]
      intro p hpm
      have : p.1 ≠ k.data.toList := fun e => nd2.1 (List.mem_map.2 ⟨p, hpm, by rw [e, hpk]⟩)
      simp [this]
    have e2 := pe.filter (fun p => !decide (p.1 = k.data.toList))
    rw [List.filter_cons_of_neg (by simp [hpk]), e1] at e2
    exact e2.symm.trans (hp.filter _)
  · rw [List.length_eraseIdx_of_lt hjl]
    simp only [Array.eraseIdxIfInBounds, hjs, dif_pos, Array.size_eraseIdx]
    omega
  · rw [at_] at hx
    rw [List.getElem?_eraseIdx] at hpi
    by_cases hi : i < j
    · rw [if_pos hi] at hx hpi; exact hr _ p x hpi hx
    · rw [if_neg hi] at hx hpi; exact hr _ p x hpi hx

/-! ### The heap's steps at a map -/
def dropI (g : Nat → Option AObj) (l : Nat) : Nat → Option AObj := fun i => match g i with
  | some (.miter m s) => if m = l then none else some (.miter m s)
  | o => o
theorem dropI_sub (g : Nat → Option AObj) (l n : Nat) : (AHeap.mk n (dropI g l)).sub ⟨n, g⟩ := ⟨rfl, fun i x e => by
  simp only [dropI] at e
  split at e
  · rename_i m s hg
    split at e
    · cases e
    · exact hg.trans e
  · exact e⟩
theorem dropI_at {g : Nat → Option AObj} {l : Nat} {es : List (List UInt8 × AV)} (h : g l = some (.map es)) : dropI g l l = some (.map es) := by simp [dropI, h]
/-- A map's block is changed; what goes through it keeps. -/
theorem HRel.changeM {K : KW} {h : AHeap} {w : World} (H : HRel K h w) {l : Nat} {es es' : List (List UInt8 × AV)} {p : Nat × Nat} {ents ents' : Array MapEntry} {clock clock' : Nat} (hl : h.get l = some (.map es)) (hp : K.loc l = some (some p))
    (hb : w.heap[p.1]? = some (.map ents clock)) (hr : MapRel K es' ents' clock')
    (hk : (∀ i seen, h.get i ≠ some (.miter l seen)) ∨ (clock' = clock ∧ ∀ e ∈ ents'.toList, ∃ e' ∈ ents.toList, e'.born = e.born ∧ e'.key = e.key)) :
    HRel K { h with get := updg h.get l (some (.map es')) } { w with heap := w.heap.setIfInBounds p.1 (.map ents' clock') } := by
  have hbl := heap_lt hb
  have other : ∀ b, b ≠ p.1 → (w.heap.setIfInBounds p.1 (.map ents' clock'))[b]? = w.heap[b]? := fun b hne => by simp [Array.getElem?_setIfInBounds, Ne.symm hne]
  refine H.changeG hl hp (fun b hne => other b hne) ⟨p.1, p.2, ents', clock', hp, by simp [hbl], hr⟩ rfl fun i m seen es2 q r e1 e2 e3 e4 ho => ?_
  have hil : i ≠ l := fun e => by subst e; simp [updg] at e1
  rcases ho with rfl | rfl
  · exact absurd rfl hil
  simp only [updg, hil, if_false] at e1
  rcases hk with hk | ⟨rfl, hk⟩
  · exact absurd e1 (hk i seen)
  rw [hp] at e4
  simp only [Option.some.injEq] at e4
  subst e4
  obtain ⟨since, sn, ents2, clock2, a1, a2, a3, a4, a5⟩ := H.iter i m seen es q p e1 hl e3 hp
  rw [hb] at a2
  simp only [Option.some.injEq, Obj.map.injEq] at a2
  obtain ⟨rfl, rfl⟩ := a2
  refine ⟨since, sn, ents', clock', by rw [← a1]; exact other _ (H.apart e1 hl rfl hil e3 hp), by simp [hbl], a3, fun e he => ?_, fun k rest hs => ?_⟩
  · obtain ⟨e', he', b1, b2⟩ := hk e he
    rw [← b1, ← b2]
    exact a4 e' he'
  · obtain ⟨st, h1, h2⟩ := a5 k rest hs
    refine ⟨st, h1, fun e he => ?_⟩
    obtain ⟨e', he', b1, b2⟩ := hk e he
    rw [← b1, ← b2]
    exact h2 e' he'

def amapUpdate (P : Program) (h : AHeap) (t : TypeId) (x k v : AV) : Option AHeap := (tmap P t).bind fun q => match tkind P q.1, k with
  | .str, .str s => match x with
    | .map l => match h.get l with
      | some (.map es) => match akv es s with
        | some _ => some ⟨h.next, updg h.get l (some (.map (aover es s v)))⟩
        | none => some ⟨h.next, updg (dropI h.get l) l (some (.map (ains es s v)))⟩
      | _ => none
    | _ => none
  | _, _ => none
theorem tmap_run {P : Program} {t : TypeId} {q : TypeId × TypeId} (hq : tmap P t = some q) : P.underlying t = some (.map q.1 q.2) := by
  unfold tmap at hq
  split at hq
  · cases hq; assumption
  · cases hq
theorem amapUpdate_run {P : Program} {K : KW} {h h' : AHeap} {w : World} (H : HRel K h w) {t : TypeId} {x k y : AV} {v u z : Value} (hx : VR K x v) (hk : VR K k u) (hz : VR K y z) (hy : amapUpdate P h t x k y = some h') :
    ∃ w', (Instr.mapUpdate t v u z).run P w = .ok () w' ∧ HRel K h' w' ∧ Glob w w' := by
  unfold amapUpdate at hy
  obtain ⟨⟨kt, et⟩, hq, hy'⟩ := Option.bind_eq_some_iff.1 hy
  clear hy
  have hy := hy'
  clear hy'
  have ht := tmap_run hq
  simp only at hy
  split at hy
  case h_2 => cases hy
  rename_i s hkt
  have hks := tkind_str hkt
  generalize hgs : AV.str s = ks at hk
  cases hk <;> cases hgs
  rename_i b
  have hkey : IsKey .string (.string b) := trivial
  split at hy
  case h_2 => cases hy
  rename_i l
  split at hy
  case h_2 => cases hy
  rename_i es hl
  obtain ⟨b', o, ents, clock, h1, h2, h3⟩ := H.obj l _ hl
  cases hx with
  | map _ b2 o2 hloc =>
    rw [h1] at hloc
    simp only [Option.some.injEq, Prod.mk.injEq] at hloc
    obtain ⟨rfl, rfl⟩ := hloc
    have glob : ∀ o, Glob w { w with heap := w.heap.setIfInBounds b' o } := fun o => ⟨rfl, rfl, rfl, by simp, fun k hk => by omega⟩
    rcases h3.find b with ⟨ha, hn⟩ | ⟨j, e, vv, ha, hb, hc, hs, hv⟩
    · rw [hn] at hy
      simp only [Option.some.injEq] at hy
      subst hy
      refine ⟨{ w with heap := w.heap.setIfInBounds b' (.map (ents.push { key := .string b, val := z, born := clock }) (clock + 1)) }, ?_, (HRel.sub H (dropI_sub h.get l h.next)).changeM (l := l) (es := es) (p := (b', o)) (dropI_at hl) h1 h2 (h3.push hn hz) (.inl fun i seen e => ?_), glob _⟩
      · simp only [Instr.mapUpdate, Sem.run_bind, run_underlying ht, Result.andThen_ok, Go.MapKept.run_getObj_map h2, run_checkKey hks hkey, run_findKey hks ha, Go.MapKept.run_setObj_map _ h2]
      · simp only [dropI] at e
        split at e
        · split at e
          · cases e
          · rename_i hne; cases e; exact hne rfl
        · rename_i hne; exact hne _ _ e
    · rw [hs] at hy
      simp only [Option.some.injEq] at hy
      subst hy
      have hje : ents.toList[j]? = some e := by simpa using hb
      refine ⟨{ w with heap := w.heap.setIfInBounds b' (.map (ents.modify j fun e => { e with key := .string b, val := z }) clock) }, ?_, H.changeM (p := (b', o)) hl h1 h2 (h3.modify hb hc hs hz) (.inr ⟨rfl, fun x hx => ?_⟩), glob _⟩
      · have hkeep : ((ents[j]?.map fun x => x.key).getD (.string b)) = .string b := by rw [hb]; exact hc
        simp only [Instr.mapUpdate, Sem.run_bind, run_underlying ht, Result.andThen_ok, Go.MapKept.run_getObj_map h2, run_checkKey hks hkey, run_findKey hks ha, hkeep, run_keyThatStays hkey, Go.MapKept.run_setObj_map _ h2]
      · obtain ⟨i, hi⟩ := List.getElem?_of_mem hx
        rw [Array.getElem?_toList, Array.getElem?_modify] at hi
        split at hi
        · rename_i hij
          subst hij
          rw [hb] at hi
          simp only [Option.map_some, Option.some.injEq] at hi
          subst hi
          exact ⟨e, List.mem_of_getElem? hje, rfl, hc⟩
        · exact ⟨x, List.mem_of_getElem? (by rw [Array.getElem?_toList]; exact hi), rfl, rfl⟩

def adelete (P : Program) (h : AHeap) (t : TypeId) (x k : AV) : Option AHeap := (tmap P t).bind fun q => match tkind P q.1, k with
  | .str, .str s => match x with
    | .map l => match h.get l with
      | some (.map es) => some ⟨h.next, updg h.get l (some (.map (akdel es s)))⟩
      | _ => none
    | _ => none
  | _, _ => none
theorem akdel_none : ∀ {es : List (List UInt8 × AV)} {k : List UInt8}, akv es k = none → akdel es k = es := fun {es k} h => by
  unfold akdel
  rw [List.filter_eq_self]
  intro p hp
  simp [akv_none h p hp]
theorem adelete_run {P : Program} {K : KW} {h h' : AHeap} {w : World} (H : HRel K h w) {t ty : TypeId} {x k : AV} {v u : Value} (hx : VR K x v) (hk : VR K k u) (hy : adelete P h t x k = some h') (ts : Array TypeId) (hts0 : ts[0]? = some t) :
    ∃ w', (Builtin.delete_ ts ty #[v, u]).run P w = .ok (.tuple #[]) w' ∧ HRel K h' w' ∧ Glob w w' := by
  unfold adelete at hy
  obtain ⟨⟨kt, et⟩, hq, hy'⟩ := Option.bind_eq_some_iff.1 hy
  clear hy
  have hy := hy'
  clear hy'
  have ht := tmap_run hq
  simp only at hy
  split at hy
  case h_2 => cases hy
  rename_i s hkt
  have hks := tkind_str hkt
  generalize hgs : AV.str s = ks at hk
  cases hk <;> cases hgs
  rename_i b
  have hkey : IsKey .string (.string b) := trivial
  split at hy
  case h_2 => cases hy
  rename_i l
  split at hy
  case h_2 => cases hy
  rename_i es hl
  cases hy
  obtain ⟨b', o, ents, clock, h1, h2, h3⟩ := H.obj l _ hl
  cases hx with
  | map _ b2 o2 hloc =>
    rw [h1] at hloc
    simp only [Option.some.injEq, Prod.mk.injEq] at hloc
    obtain ⟨rfl, rfl⟩ := hloc
    have glob : ∀ o, Glob w { w with heap := w.heap.setIfInBounds b' o } := fun o => ⟨rfl, rfl, rfl, by simp, fun k hk => by omega⟩
    rcases h3.find b with ⟨ha, hn⟩ | ⟨j, e, vv, ha, hb, hc, hs, hv⟩
    · rw [akdel_none hn]
      refine ⟨{ w with heap := w.heap.setIfInBounds b' (.map ents clock) }, ?_, H.changeM (p := (b', o)) hl h1 h2 h3 (.inr ⟨rfl, fun x hx => ⟨x, hx, rfl, rfl⟩⟩), glob _⟩
      simp [Builtin.delete_, hts0, run_underlying ht, Go.MapKept.run_getObj_map h2, run_checkKey hks hkey, run_findKey hks ha, Go.MapKept.run_setObj_map _ h2]
    · refine ⟨{ w with heap := w.heap.setIfInBounds b' (.map (ents.eraseIdxIfInBounds j) clock) }, ?_, H.changeM (p := (b', o)) hl h1 h2 (h3.erase hb hc) (.inr ⟨rfl, fun x hx => ⟨x, ?_, rfl, rfl⟩⟩), glob _⟩
      · simp [Builtin.delete_, hts0, run_underlying ht, Go.MapKept.run_getObj_map h2, run_checkKey hks hkey, run_findKey hks ha, Go.MapKept.run_setObj_map _ h2]
      · simp only [Array.eraseIdxIfInBounds] at hx
        split at hx
        · rw [Array.toList_eraseIdx] at hx
          exact List.mem_of_mem_eraseIdx hx
        · exact hx

/-! ### A map gone through -/
def arangeM (P : Program) (h : AHeap) (t : TypeId) (x : AV) : Option (AV × AHeap) := match tmap P t, x with
  | some _, .map l => match h.get l with
    | some (.map _) => some (.ptr h.next 0, h.push (.miter l []))
    | _ => none
  | _, _ => none
theorem arangeM_run {P : Program} {K : KW} {h h' : AHeap} {w : World} (H : HRel K h w) {t : TypeId} {x y : AV} {v : Value} (hv : VR K x v) (hx : arangeM P h t x = some (y, h')) : Gives P (Instr.range t v) K w y h' := by
  unfold arangeM at hx
  split at hx
  case h_2 => cases hx
  rename_i q l hq
  split at hx
  case h_2 => cases hx
  rename_i es hl
  cases hx
  have ht := tmap_run hq
  obtain ⟨b', o, ents, clock, h1, h2, h3⟩ := H.obj l _ hl
  cases hv with
  | map _ b2 o2 hloc =>
    rw [h1] at hloc
    simp only [Option.some.injEq, Prod.mk.injEq] at hloc
    obtain ⟨rfl, rfl⟩ := hloc
    have hle : K.le (K.put h.next (some (w.heap.size, 0))) := KW.le_put (H.fresh _ (Nat.le_refl _)) _
    have hne : l ≠ h.next := Nat.ne_of_lt (H.lt hl)
    refine ⟨_, w.alloc (.mapIter (some b') clock #[] clock), .pointer (some ⟨w.heap.size, 0, none⟩), hle, ?_, H.new (.mapIter (some b') clock #[] clock) (.miter l []) 0 ⟨_, 0, b', o, clock, #[], clock, KW.put_same _ _ _, heap_alloc_at _ _, by rw [KW.put_other K _ hne]; exact h1⟩ (fun m seen es2 q hm g1 g2 => ?_), .ptr _ 0 _ 0 (KW.put_same _ _ _), Glob.alloc w _⟩
    · simp [Instr.range, run_underlying ht, Go.MapKept.run_getObj_map h2]
    · cases hm
      rw [h1] at g2
      cases g2
      refine ⟨clock, #[], ents, clock, heap_alloc_at _ _, by rw [heap_alloc_old (heap_lt h2)]; exact h2, Nat.le_refl _, fun e he => ⟨?_, fun s hs => by simp⟩, fun k rest hh => by cases hh⟩
      obtain ⟨i, hi⟩ := List.getElem?_of_mem he
      exact h3.2.2.1 i e (by simpa using hi)


def anextM (h : AHeap) (x : AV) : Option (List (AV × AHeap)) := match x with
  | .ptr l 0 => match h.get l with
    | some (.miter m seen) => match h.get m with
      | some (.map es) => match es.filter fun p => !decide (p.1 ∈ seen) with
        | [] => some [(.tuple [.bool false], h)]
        | p :: ps => some ((p :: ps).map fun p => (.tuple [.bool true, .str p.1, p.2], ⟨h.next, updg h.get l (some (.miter m (p.1 :: seen)))⟩))
      | _ => none
    | _ => none
  | _ => none
/-- Whichever entry comes next, it is one of them. -/
theorem anextM_run {P : Program} {K : KW} {h : AHeap} {w : World} (H : HRel K h w) {x : AV} {v : Value} {ty : TypeId} {opts : List (AV × AHeap)} (hv : VR K x v) (hx : anextM h x = some opts) :
    ∃ q ∈ opts, Gives P (Instr.next v false ty) K w q.1 q.2 := by
  unfold anextM at hx
  split at hx
  case h_2 => cases hx
  rename_i l
  split at hx
  case h_2 => cases hx
  rename_i m seen hl
  split at hx
  case h_2 => cases hx
  rename_i es hm
  obtain ⟨b, o, bm, om, since0, sn0, last0, h1, h2, h3⟩ := H.obj l _ hl
  obtain ⟨bm', om', ents, clock, k1, k2, k3⟩ := H.obj m _ hm
  rw [h3] at k1
  simp only [Option.some.injEq, Prod.mk.injEq] at k1
  obtain ⟨rfl, rfl⟩ := k1
  obtain ⟨since, sn, ents', clock', a1, a2, a3, a4, a5⟩ := H.iter l m seen es (b, o) (bm, om) hl hm h1 h3
  simp only at a1 a2
  rw [k2] at a2
  simp only [Option.some.injEq, Obj.map.injEq] at a2
  obtain ⟨rfl, rfl⟩ := a2
  obtain ⟨nd, db, dc, es', hp, hlen, hr⟩ := k3
  have nd' : (es'.map (·.1)).Nodup := (hp.map _).nodup_iff.2 nd
  have at_ : ∀ e ∈ ents.toList, ∃ (i : Nat) (p : List UInt8 × AV), ents[i]? = some e ∧ es'[i]? = some p ∧ p ∈ es ∧ ∃ s : ByteArray, e.key = .string s ∧ s.data.toList = p.1 ∧ VR K p.2 e.val := fun e he => by
    obtain ⟨i, hi⟩ := List.getElem?_of_mem he
    have hi' : ents[i]? = some e := by simpa using hi
    have hil : i < es'.length := by rw [hlen]; exact (Array.getElem?_eq_some_iff.1 hi').1
    exact ⟨i, es'[i], hi', List.getElem?_eq_getElem hil, hp.mem_iff.1 (List.getElem_mem _), hr i _ e (List.getElem?_eq_getElem hil) hi'⟩
  cases hv with
  | ptr _ _ b' o' hloc =>
    rw [h1] at hloc
    simp only [Option.some.injEq, Prod.mk.injEq] at hloc
    obtain ⟨rfl, rfl⟩ := hloc
    rcases run_next_at (P := P) w ty b bm since clock sn ents clock a1 k2 (fun e he => (a4 e he).1) a3 with ⟨g1, g2⟩ | ⟨e, he, w1, hw1, g⟩
    · have hemp : (es.filter fun p => !decide (p.1 ∈ seen)) = [] := by
        rw [List.filter_eq_nil_iff]
        intro p hpm hns
        obtain ⟨i, hi⟩ := List.getElem?_of_mem (hp.mem_iff.2 hpm)
        have hil : i < ents.size := by rw [← hlen]; exact (List.getElem?_eq_some_iff.1 hi).1
        obtain ⟨s, hs, hsk, _⟩ := hr i p ents[i] hi (by simp [hil])
        have hmem : ents[i] ∈ ents.toList := by simp
        have hb := (a4 _ hmem).2 s hs
        have hin : ents[i] ∈ leftOf ents sn := by
          unfold leftOf
          rw [Array.mem_filter]
          refine ⟨by simp, ?_⟩
          simp only [Bool.not_eq_true', decide_eq_false_iff_not] at hns
          have : ¬ (ents[i].born ∈ sn) := fun hc => hns (by rw [← hsk]; exact hb.1 hc)
          simpa using this
        have : leftOf ents sn = #[] := Array.eq_empty_of_size_eq_zero g1
        rw [this] at hin
        simp at hin
      rw [hemp] at hx
      simp only [Option.some.injEq] at hx
      subst hx
      exact ⟨_, List.mem_singleton.2 rfl, .still H g2 (.one_tuple (.bool false))⟩
    · have hel : e ∈ ents.toList ∧ ¬ e.born ∈ sn := by
        unfold leftOf at he
        have : e ∈ ents.filter fun e => !sn.contains e.born := by simpa using he
        rw [Array.mem_filter] at this
        exact ⟨by simpa using this.1, by simpa using this.2⟩
      obtain ⟨i, p, hi, hip, hpm, s, hs, hsk, hv⟩ := at_ e hel.1
      have hpn : p.1 ∉ seen := fun hc => hel.2 (((a4 e hel.1).2 s hs).2 (by rw [hsk]; exact hc))
      have hmem : p ∈ es.filter fun p => !decide (p.1 ∈ seen) := by
        rw [List.mem_filter]
        exact ⟨hpm, by simpa using hpn⟩
      have hopts : opts = (es.filter fun p => !decide (p.1 ∈ seen)).map fun p => (AV.tuple [.bool true, .str p.1, p.2], (⟨h.next, updg h.get l (some (.miter m (p.1 :: seen)))⟩ : AHeap)) := by
        revert hx hmem
        generalize (es.filter fun p => !decide (p.1 ∈ seen)) = L
        intro hx hmem
        cases L with
        | nil => cases hmem
        | cons q L => simpa using hx.symm
      refine ⟨_, by rw [hopts]; exact List.mem_map.2 ⟨p, hmem, rfl⟩, ?_⟩
      have hw1h : w1.heap = w.heap := by rcases hw1 with rfl | rfl <;> rfl
      have hbl := heap_lt h2
      have hne : m ≠ l := fun hh => by subst hh; rw [hl] at hm; cases hm
      have hbb : bm ≠ b := H.apart (q := (bm, om)) (p := (b, o)) hm hl rfl hne h3 h1
      have hother : ∀ b', b' ≠ b → (ChangeMaps.setBlock w1 b (.mapIter (some bm) since (sn.push e.born) clock)).heap[b']? = w.heap[b']? := fun b' hb' => by
        simp [ChangeMaps.setBlock, Array.getElem?_setIfInBounds, Ne.symm hb', hw1h]
      have hthis : (ChangeMaps.setBlock w1 b (.mapIter (some bm) since (sn.push e.born) clock)).heap[b]? = some (.mapIter (some bm) since (sn.push e.born) clock) := by
        simp [ChangeMaps.setBlock, hw1h, hbl]
      refine ⟨K, _, _, KW.le_refl K, g, H.changeG hl h1 hother ⟨b, o, bm, om, since, sn.push e.born, clock, h1, hthis, h3⟩ rfl (fun i' m' seen' es2 q r e1 e2 e3 e4 ho => ?_), ?_, ?_⟩
      · have hml : m' ≠ l := fun hh => by subst hh; simp [updg] at e2
        have hil : i' = l := ho.resolve_right hml
        subst hil
        simp only [updg, if_true, Option.some.injEq, AObj.miter.injEq] at e1
        obtain ⟨rfl, rfl⟩ := e1
        rw [h1] at e3
        rw [h3] at e4
        cases e3; cases e4
        have same : ∀ e' ∈ ents.toList, ∀ s' : ByteArray, e'.key = .string s' → (e'.born = e.born ↔ s'.data.toList = p.1) := fun e' he' s' hs' => by
          obtain ⟨i2, p2, hi2, hip2, _, s2, hs2, hsk2, _⟩ := at_ e' he'
          rw [hs'] at hs2
          cases hs2
          constructor
          · intro hb
            have := db i2 i e' e hi2 hi hb
            subst this
            rw [hip] at hip2
            cases hip2
            exact hsk2
          · intro hk
            have := nodup_at nd' hip2 hip (by rw [← hsk2, hk])
            subst this
            rw [hi] at hi2
            cases hi2
            rfl
        refine ⟨since, sn.push e.born, ents, clock, hthis, by rw [hother bm hbb]; exact k2, a3, fun e' he' => ⟨(a4 e' he').1, fun s' hs' => ?_⟩, fun k rest hh => ?_⟩
        · rw [Array.mem_push, List.mem_cons, (a4 e' he').2 s' hs', same e' he' s' hs']
          exact Or.comm
        · cases hh
          exact ⟨e.born, by simp, same⟩
      · rw [hs]
        refine .triple (.bool true) ?_ hv
        rw [← hsk]
        exact .str s
      · have : (ChangeMaps.setBlock w1 b (.mapIter (some bm) since (sn.push e.born) clock)).heap.size = w.heap.size := by simp [ChangeMaps.setBlock, hw1h]
        rcases hw1 with rfl | rfl <;> exact ⟨rfl, rfl, rfl, by rw [this]; exact Nat.le_refl _, fun k hk => by omega⟩

/-- The entry that came last, read again. -/
def aentry (h : AHeap) (x : AV) : Option AV := match x with
  | .ptr l 0 => match h.get l with
    | some (.miter m (k :: _)) => match h.get m with
      | some (.map es) => match akv es k with
        | some v => some (.tuple [.str k, v])
        | none => none
      | _ => none
    | _ => none
  | _ => none
theorem aentry_run {P : Program} {K : KW} {h : AHeap} {w : World} (H : HRel K h w) {x y : AV} {v : Value} (hv : VR K x v) (hx : aentry h x = some y) : Tells P (Instr.entry v) K w y := by
  unfold aentry at hx
  split at hx
  case h_2 => cases hx
  rename_i l
  split at hx
  case h_2 => cases hx
  rename_i m k rest hl
  split at hx
  case h_2 => cases hx
  rename_i es hm
  split at hx
  case h_2 => cases hx
  rename_i u hk
  cases hx
  obtain ⟨b, o, bm, om, since0, sn0, last0, h1, h2, h3⟩ := H.obj l _ hl
  obtain ⟨bm', om', ents, clock, k1, k2, k3⟩ := H.obj m _ hm
  rw [h3] at k1
  simp only [Option.some.injEq, Prod.mk.injEq] at k1
  obtain ⟨rfl, rfl⟩ := k1
  obtain ⟨since, sn, ents', clock', a1, a2, a3, a4, a5⟩ := H.iter l m _ es (b, o) (bm, om) hl hm h1 h3
  simp only at a1 a2
  rw [k2] at a2
  simp only [Option.some.injEq, Obj.map.injEq] at a2
  obtain ⟨rfl, rfl⟩ := a2
  obtain ⟨st, b1, b2⟩ := a5 k rest rfl
  obtain ⟨j, e, vv, hb, hc, hs, hvv⟩ : ∃ (j : Nat) (e : MapEntry) (vv : AV), ents[j]? = some e ∧ (∃ s : ByteArray, e.key = .string s ∧ s.data.toList = k) ∧ akv es k = some vv ∧ VR K vv e.val := by
    rcases k3.find ⟨k.toArray⟩ with ⟨_, hn⟩ | ⟨j, e, vv, _, hb, hc, hs, hvv⟩
    · simp only [List.toList_toArray] at hn
      rw [hk] at hn; cases hn
    · exact ⟨j, e, vv, hb, ⟨_, hc, by simp⟩, by simpa using hs, hvv⟩
  rw [hk] at hs
  cases hs
  obtain ⟨s, hs, hsk⟩ := hc
  have hmem : e ∈ ents.toList := List.mem_of_getElem? (i := j) (by simpa using hb)
  have hborn : e.born = st := (b2 e hmem s hs).2 hsk
  cases hv with
  | ptr _ _ b' o' hloc =>
    rw [h1] at hloc
    simp only [Option.some.injEq, Prod.mk.injEq] at hloc
    obtain ⟨rfl, rfl⟩ := hloc
    have nd : (ents.toList.map (·.born)).Nodup := by
      rw [List.nodup_iff_pairwise_ne, List.pairwise_iff_getElem]
      intro i i' hi hi' hlt heq
      simp only [List.length_map, Array.length_toList] at hi hi'
      simp only [List.getElem_map, Array.getElem_toList] at heq
      have := k3.2.1 i i' _ _ (Array.getElem?_eq_getElem hi) (Array.getElem?_eq_getElem hi') heq
      omega
    have hf : ents.find? (·.born == e.born) = some e := by rw [← Array.find?_toList]; exact find_born e ents.toList nd hmem
    refine ⟨.tuple #[e.key, e.val], ?_, ?_⟩
    · simp only [Instr.entry, getObj, Sem.run_bind, Sem.run, a1, k2, Result.andThen, b1, bne_self_eq_false, Bool.false_eq_true, if_false]
      rw [← hborn, hf]
      rfl
    · rw [hs]
      refine .pair ?_ hvv
      rw [← hsk]
      exact .str s

end Go.Proofs.YtolacfnciaimhaaGreatDoor
