/- What one operation does to abstract values: slices of slices, an append, arrays that never change any more. -/
import Derived.Test.YtolacfnciaimhaaGreatDoorAw5
set_option linter.unusedVariables false
set_option linter.unusedSimpArgs false
namespace Go.Proofs.YtolacfnciaimhaaGreatDoor
open Go Go.RowKit

/-! ### Slices of texts and slices -/
def sub {α : Type} (xs : List α) : Option Int → Option Int → Option (List α)
  | none, none => some xs
  | some l, none => if 0 ≤ l ∧ l.toNat ≤ xs.length then some (xs.drop l.toNat) else none
  | none, some h => if 0 ≤ h ∧ h.toNat ≤ xs.length then some (xs.take h.toNat) else none
  | some l, some h => if 0 ≤ l ∧ l ≤ h ∧ h.toNat ≤ xs.length then some ((xs.drop l.toNat).take (h.toNat - l.toNat)) else none
/-- The bounds, as numbers. -/
theorem sub_eq {α : Type} {xs ys : List α} {lo hi : Option Int} (h : sub xs lo hi = some ys) :
    ∃ l n : Nat, l ≤ n ∧ n ≤ xs.length ∧ ys = (xs.drop l).take (n - l) ∧ (lo = none ∧ l = 0 ∨ lo = some (l : Int)) ∧ (hi = none ∧ n = xs.length ∨ hi = some (n : Int)) := by
  unfold sub at h
  split at h
  · cases h
    exact ⟨0, xs.length, Nat.zero_le _, Nat.le_refl _, by simp, .inl ⟨rfl, rfl⟩, .inl ⟨rfl, rfl⟩⟩
  · rename_i l
    split at h
    · cases h
      refine ⟨l.toNat, xs.length, by omega, Nat.le_refl _, ?_, .inr ?_, .inl ⟨rfl, rfl⟩⟩
      · rw [List.take_of_length_le (by simp)]
      · congr 1; omega
    · cases h
  · rename_i k
    split at h
    · cases h
      exact ⟨0, k.toNat, Nat.zero_le _, by omega, by simp, .inl ⟨rfl, rfl⟩, .inr (by congr 1; omega)⟩
    · cases h
  · rename_i l k
    split at h
    · cases h
      exact ⟨l.toNat, k.toNat, by omega, by omega, rfl, .inr (by congr 1; omega), .inr (by congr 1; omega)⟩
    · cases h

def ibound : Option AV → Option (Option Int)
  | none => some none
  | some (.int _ n) => some (some n)
  | some _ => none
def BndRel (K : KW) : Option AV → Option Value → Prop
  | none, none => True
  | some x, some v => VR K x v
  | _, _ => False
theorem ibound_none {K : KW} {x : Option AV} {v : Option Value} (h : BndRel K x v) (hx : ibound x = some none) : v = none := by
  cases x with
  | none => cases v with
    | none => rfl
    | some v => cases h
  | some x => cases x <;> simp [ibound] at hx
theorem ibound_some {K : KW} {x : Option AV} {v : Option Value} {n : Int} (h : BndRel K x v) (hx : ibound x = some (some n)) : ∃ k, v = some (.int k n) := by
  cases x with
  | none => simp [ibound] at hx
  | some x => cases x <;> simp [ibound] at hx
              case int k m =>
                subst hx
                cases v with
                | none => cases h
                | some v => cases h; exact ⟨_, rfl⟩

/-- The model's bounds. -/
theorem bounds_run {P : Program} {K : KW} {w : World} {isS : Bool} {len cap l n : Nat} {lo hi : Option AV} {lv hv : Option Value} {li hi' : Option Int} (hlo : BndRel K lo lv) (hhi : BndRel K hi hv) (el : ibound lo = some li) (eh : ibound hi = some hi')
    (hl : li = none ∧ l = 0 ∨ li = some (l : Int)) (hh : hi' = none ∧ n = len ∨ hi' = some (n : Int)) (h1 : l ≤ n) (h2 : n ≤ cap) : (Instr.sliceBounds isS len cap lv hv none).run P w = .ok (l, n, cap) w := by
  have e2 : hv = none ∧ n = len ∨ ∃ k, hv = some (.int k (n : Int)) := by
    rcases hh with ⟨rfl, rfl⟩ | rfl
    · exact .inl ⟨ibound_none hhi eh, rfl⟩
    · exact .inr (ibound_some hhi eh)
  have e1 : lv = none ∧ l = 0 ∨ ∃ k, lv = some (.int k (l : Int)) := by
    rcases hl with ⟨rfl, rfl⟩ | rfl
    · exact .inl ⟨ibound_none hlo el, rfl⟩
    · exact .inr (ibound_some hlo el)
  clear hlo hhi el eh hl hh
  have c1 : (0 : Int) ≤ (n : Int) ∧ (n : Int) ≤ (cap : Int) := ⟨by omega, by omega⟩
  have c2 : (0 : Int) ≤ (l : Int) ∧ (l : Int) ≤ (n : Int) := ⟨by omega, by omega⟩
  rcases e2 with ⟨rfl, rfl⟩ | ⟨k, rfl⟩ <;> rcases e1 with ⟨rfl, rfl⟩ | ⟨k', rfl⟩ <;>
    simp only [Instr.sliceBounds, Instr.sliceBound, asIntOf, Sem.run_bind, Sem.run_pure, Result.andThen_ok, c1, c2, and_self, if_true, Int.toNat_natCast]

theorem flat_drop {sz : Nat} : ∀ {rows : List (List AV)}, (∀ r, r ∈ rows → r.length = sz) → ∀ l, (rows.drop l).flatten = rows.flatten.drop (l * sz)
  | [], _, l => by simp
  | r :: rows, h, 0 => by simp
  | r :: rows, h, l + 1 => by
    rw [List.drop_succ_cons, flat_drop (rows := rows) (fun r hr => h r (by simp [hr])) l, List.flatten_cons, Nat.succ_mul, Nat.add_comm]
    rw [← h r (by simp), List.drop_length_add_append]
theorem flat_take {sz : Nat} : ∀ {rows : List (List AV)}, (∀ r, r ∈ rows → r.length = sz) → ∀ l, (rows.take l).flatten = rows.flatten.take (l * sz)
  | [], _, l => by simp
  | r :: rows, h, 0 => by simp
  | r :: rows, h, l + 1 => by
    rw [List.take_succ_cons, List.flatten_cons, flat_take (rows := rows) (fun r hr => h r (by simp [hr])) l, List.flatten_cons, Nat.succ_mul, Nat.add_comm]
    rw [← h r (by simp), List.take_length_add_append]

/-- A piece of a slice that never changes any more. -/
theorem slice_sub {K : KW} {sz : Nat} {rows : List (List AV)} {a : Option Addr} {len cap : Nat} (h : VR K (.slice sz rows) (.slice a len cap)) {l n : Nat} (h1 : l ≤ n) (h2 : n ≤ rows.length) :
    len = rows.length ∧ len ≤ cap ∧ VR K (.slice sz ((rows.drop l).take (n - l))) (.slice (if cap = l then a else a.map (·.add (l * sz))) (n - l) (cap - l)) := by
  cases h with
  | slice0 =>
    simp only [List.length_nil, Nat.le_zero] at h2
    subst h2
    simp only [Nat.le_zero] at h1
    subst h1
    exact ⟨rfl, Nat.zero_le _, by simpa using .slice0 sz _ _⟩
  | slice _ _ b o _ c e fr g hb hsz hc h1' hv hn hcap =>
    refine ⟨rfl, hcap, ?_⟩
    have hlen : ((rows.drop l).take (n - l)).length = n - l := by simp; omega
    by_cases hz : n - l = 0
    · have : (rows.drop l).take (n - l) = [] := List.eq_nil_of_length_eq_zero (by omega)
      rw [this, hz]
      exact .slice0 _ _ _
    · rw [if_neg (by omega)]
      simp only [Option.map_some, addr_add]
      have hsz' : ∀ r, r ∈ (rows.drop l).take (n - l) → r.length = sz := fun r hr => hsz r (List.mem_of_mem_drop (List.mem_of_mem_take hr))
      have hfl : ((rows.drop l).take (n - l)).flatten = (rows.flatten.drop (l * sz)).take ((n - l) * sz) := by
        rw [flat_take (fun r hr => hsz r (List.mem_of_mem_drop hr)), flat_drop hsz]
      have hfl2 : ((rows.drop l).take (n - l)).flatten.length = (n - l) * sz := by rw [flat_len hsz', hlen]
      have hb2 : l * sz + (n - l) * sz ≤ rows.flatten.length := by
        rw [flat_len hsz, ← Nat.add_mul, show l + (n - l) = n by omega]
        exact Nat.mul_le_mul_right _ h2
      have get : ∀ (k : Nat) (x : AV), ((rows.drop l).take (n - l)).flatten[k]? = some x → rows.flatten[l * sz + k]? = some x := by
        intro k x e
        have hk : k < (n - l) * sz := by rw [← hfl2]; exact (List.getElem?_eq_some_iff.1 e).1
        rw [hfl, List.getElem?_take, if_pos hk, List.getElem?_drop] at e
        exact e
      have := VR.slice (K := K) sz ((rows.drop l).take (n - l)) b (o + l * sz) (cap - l) c e fr (fun k => g (l * sz + k)) hb hsz'
        (fun k hk => by rw [Nat.add_assoc]; exact hc _ (by omega)) (fun k hk => h1' _ (by omega)) (fun k x ek => hv _ _ (get k x ek)) (by omega) (by omega)
      rwa [hlen] at this

/-- Rows of so many cells. -/
def chunk (m : Nat) : Nat → List AV → List (List AV)
  | 0, _ => []
  | n + 1, cs => cs.take m :: chunk m n (cs.drop m)
theorem chunk_flat (m : Nat) : ∀ (n : Nat) (cs : List AV), cs.length = n * m → (chunk m n cs).flatten = cs ∧ (∀ r, r ∈ chunk m n cs → r.length = m) ∧ (chunk m n cs).length = n
  | 0, cs, h => by
    have : cs = [] := List.eq_nil_of_length_eq_zero (by simpa using h)
    subst this
    simp [chunk]
  | n + 1, cs, h => by
    rw [Nat.succ_mul] at h
    obtain ⟨h1, h2, h3⟩ := chunk_flat m n (cs.drop m) (by simp; omega)
    refine ⟨by simp [chunk, h1], fun r hr => ?_, by simp [chunk, h3]⟩
    simp only [chunk, List.mem_cons] at hr
    rcases hr with rfl | hr
    · simp; omega
    · exact h2 r hr

def aslice (P : Program) (h : AHeap) (t : TypeId) (x : AV) (lo hi : Option AV) : Option (AV × AHeap) :=
  (ibound lo).bind fun l => (ibound hi).bind fun n => match x with
    | .str s => match tkind P t with
      | .str => (sub s l n).map fun y => (.str y, h)
      | _ => none
    | .slice sz rows => (telem P t).bind fun e => match tinfo P e with
      | some (m, _) => if m = sz then (sub rows l n).map fun y => (.slice sz y, h) else none
      | none => none
    | .rslice r m => match l, n, telem P t, h.get r with
      | none, some k, some e0, some (.arr e sz rows) => if 0 ≤ k ∧ k.toNat ≤ rows.length ∧ m ≤ rows.length ∧ (tinfo P e0).isSome then some (.rslice r k.toNat, h) else none
      | _, _, _, _ => none
    | .ptr r 0 => match l, n, tarr P t, h.get r with
      | none, none, some (k, e), some (.cells cs) => match tinfo P e with
        | some (m, _) => if cs.length = k * m ∧ k ≤ maxLen then some (.rslice h.next k, ⟨h.next + 1, updg (updg h.get r none) h.next (some (.arr 0 m (chunk m k cs)))⟩) else none
        | none => none
      | _, _, _, _ => none
    | _ => none


theorem run_slice_str {P : Program} {w : World} {t : TypeId} (s : ByteArray) (lv hv : Option Value) (l n : Nat) (h : P.underlying t = some .string) (hb : (Instr.sliceBounds false s.size s.size lv hv none).run P w = .ok (l, n, s.size) w) :
    (Instr.sliceAt t (.string s) lv hv none).run P w = .ok (.string (s.extract l n)) w := by
  simp only [Instr.sliceAt, Instr.slice, Sem.run_bind, run_underlying h, Result.andThen_ok, Option.isSome_none, Bool.false_eq_true, if_false, Sem.run_pure, hb]
theorem run_slice_slice {P : Program} {w : World} {t e : TypeId} (a : Option Addr) (len cap : Nat) (lv hv : Option Value) (l n m : Nat) (h : P.underlying t = some (.slice e)) (hs : (sizeOf e).run P w = .ok m w) (hb : (Instr.sliceBounds true len cap lv hv none).run P w = .ok (l, n, cap) w) :
    (Instr.sliceAt t (.slice a len cap) lv hv none).run P w = .ok (.slice (if cap = l then a else a.map (·.add (l * m))) (n - l) (cap - l)) w := by
  simp only [Instr.sliceAt, Instr.slice, Sem.run_bind, run_underlying h, Result.andThen_ok, Sem.run_pure, hb, hs]

theorem aslice_run {P : Program} {K : KW} {h h' : AHeap} {w : World} (H : HRel K h w) {t : TypeId} {x y : AV} {v : Value} {lo hi : Option AV} {lv hv : Option Value} (hxv : VR K x v) (hlo : BndRel K lo lv) (hhi : BndRel K hi hv) (hx : aslice P h t x lo hi = some (y, h')) :
    Gives P (Instr.sliceAt t v lv hv none) K w y h' := by
  unfold aslice at hx
  obtain ⟨li, el, hx1⟩ := Option.bind_eq_some_iff.1 hx
  clear hx
  obtain ⟨ni, en, hx⟩ := Option.bind_eq_some_iff.1 hx1
  clear hx1
  split at hx
  · rename_i s
    split at hx
    case h_2 => cases hx
    rename_i hk
    obtain ⟨ys, hy, hx⟩ := Option.map_eq_some_iff.1 hx
    cases hx
    cases hxv with
    | str s =>
      obtain ⟨l, n, h1, h2, rfl, h3, h4⟩ := sub_eq hy
      rw [Array.length_toList] at h2 h4
      refine .still H (run_slice_str s lv hv l n (tkind_str hk) (bounds_run hlo hhi el en h3 h4 h1 h2)) ?_
      have e : (s.extract l n).data.toList = (s.data.toList.drop l).take (n - l) := by simp [ByteArray.data_extract]
      rw [← e]
      exact .str _
  · rename_i sz rows
    obtain ⟨e, he, hx⟩ := Option.bind_eq_some_iff.1 hx
    split at hx
    case h_2 => cases hx
    rename_i m b hi'
    split at hx
    case isFalse => cases hx
    rename_i hm
    subst hm
    obtain ⟨ys, hy, hx⟩ := Option.map_eq_some_iff.1 hx
    cases hx
    obtain ⟨l, n, h1, h2, rfl, h3, h4⟩ := sub_eq hy
    obtain ⟨a, cap, rfl⟩ := slice_len hxv
    obtain ⟨_, hcap, hv'⟩ := slice_sub hxv h1 h2
    exact .still H (run_slice_slice a rows.length cap lv hv l n m (telem_run he) (tinfo_run hi' w).1 (bounds_run hlo hhi el en h3 h4 h1 (by omega))) hv'
  · rename_i r m
    split at hx
    case h_2 => cases hx
    rename_i k e0 e sz rows ht hr
    split at hx
    case isFalse => cases hx
    rename_i hh
    cases hx
    obtain ⟨h0, hk, hm, ht0⟩ := hh
    have hlvn := ibound_none hlo el
    obtain ⟨kk, rfl⟩ := ibound_some hhi en
    subst hlvn
    have hu := telem_run ht
    obtain ⟨hs, ho⟩ := H.obj r _ hr
    have htk : ∀ q, q ∈ rows.take k.toNat → q.length = sz := fun q hq => hs q (List.mem_of_mem_take hq)
    obtain ⟨m0, hm0⟩ : ∃ m0, (sizeOf e0).run P w = .ok m0 w := by
      obtain ⟨⟨m0, b0⟩, hi0⟩ := Option.isSome_iff_exists.1 ht0
      exact ⟨m0, (tinfo_run hi0 w).1⟩
    cases hxv with
    | rslice _ _ b cap hloc =>
      rcases ho with ⟨h1, _⟩ | ⟨b', cap', c, e', h1, h2, he, h3, h4, h5, h6⟩
      · rw [h1] at hloc; cases hloc
      · rw [h1] at hloc
        simp only [Option.some.injEq, Prod.mk.injEq] at hloc
        obtain ⟨rfl, rfl⟩ := hloc
        have hb : (Instr.sliceBounds true m cap' none (some (.int kk k)) none).run P w = .ok (0, k.toNat, cap') w := by
          simp only [Instr.sliceBounds, Instr.sliceBound, asIntOf, Sem.run_bind, Sem.run_pure, Result.andThen_ok]
          rw [if_pos ⟨h0, by omega⟩]
          simp only [Sem.run_pure, Result.andThen_ok]
        have hrun := run_slice_slice (some ⟨b', 0, none⟩) m cap' none (some (.int kk k)) 0 k.toNat m0 hu hm0 hb
        refine ⟨K, w, _, KW.le_refl K, hrun, H, ?_, Glob.refl w⟩
        · have e : (if cap' = 0 then some (⟨b', 0, none⟩ : Addr) else (some (⟨b', 0, none⟩ : Addr)).map (·.add (0 * m0))) = some ⟨b', 0, none⟩ := by
            split <;> simp [addr_add]
          rw [e, Nat.sub_zero, Nat.sub_zero]
          exact .rslice _ _ _ _ h1
    | rslice0 _ hloc =>
      have hr0 : rows = [] := by
        rcases ho with ⟨_, h⟩ | ⟨b', cap', c, e', h1, _⟩
        · exact h
        · rw [h1] at hloc; cases hloc
      subst hr0
      have hk0 : k.toNat = 0 := by simpa using hk
      have hb : (Instr.sliceBounds true 0 0 none (some (.int kk k)) none).run P w = .ok (0, 0, 0) w := by
        simp only [Instr.sliceBounds, Instr.sliceBound, asIntOf, Sem.run_bind, Sem.run_pure, Result.andThen_ok]
        rw [if_pos ⟨h0, by omega⟩]
        simp only [Sem.run_pure, Result.andThen_ok, hk0]
      have hrun := run_slice_slice none 0 0 none (some (.int kk k)) 0 0 m0 hu hm0 hb
      rw [hk0]
      exact ⟨K, w, _, KW.le_refl K, hrun, H, .rslice0 _ hloc, Glob.refl w⟩
  · rename_i r
    split at hx
    case h_2 => cases hx
    rename_i k e cs ha hr
    split at hx
    case h_2 => cases hx
    rename_i m bb hi'
    split at hx
    case isFalse => cases hx
    rename_i hh
    cases hx
    have hlvn := ibound_none hlo el
    have hhvn := ibound_none hhi en
    subst hlvn
    subst hhvn
    obtain ⟨b, o, c, e', h1, h2, h3, h4⟩ := H.obj r _ hr
    cases hxv with
    | ptr _ _ b' o' hloc =>
      rw [h1] at hloc
      simp only [Option.some.injEq, Prod.mk.injEq] at hloc
      obtain ⟨rfl, rfl⟩ := hloc
      obtain ⟨c1, c2, c3⟩ := chunk_flat m k cs hh.1
      have hle : K.le (K.put h.next (some (b, k))) := KW.le_put (H.fresh _ (Nat.le_refl _)) _
      refine ⟨_, w, .slice (some ⟨b, 0, none⟩) k k, hle, ?_, H.move hr h1 k (fun _ _ _ => rfl) ⟨c2, .inr ⟨b, k, c, e', KW.put_same _ _ _, h2, .inl rfl, by rw [h3, hh.1], by omega, hh.2, ?_⟩⟩, .rslice _ _ _ _ (KW.put_same _ _ _), Glob.refl w⟩
      · simp only [Instr.sliceAt, Sem.run_bind, run_underlying (tarr_run ha), Result.andThen_ok, Instr.sureAddr, Sem.run_pure, Instr.sliceBounds, (tinfo_run hi' w).1, Nat.zero_mul, addr_add, Nat.sub_zero]
        split <;> rfl
      · rw [c1]
        exact h4.mono hle
  · cases hx

end Go.Proofs.YtolacfnciaimhaaGreatDoor
