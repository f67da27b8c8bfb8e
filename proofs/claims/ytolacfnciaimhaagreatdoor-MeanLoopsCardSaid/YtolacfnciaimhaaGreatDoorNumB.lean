/- A number's own digits are worth the number. -/
import Derived.Test.YtolacfnciaimhaaGreatDoorNumA
import Derived.Test.YtolacfnciaimhaaGreatDoorSym
import Derived.Lib.AppendIntMem
set_option linter.unusedVariables false
namespace Go.Proofs.YtolacfnciaimhaaGreatDoor
open Go Go.RowKit Go.Lib

theorem numFrom_append (s : List UInt8) : ∀ (n : Nat) (c : UInt8), numFrom n (s ++ [c]) = numFrom n s * 10 + (c.toNat - 48) := by
  induction s with
  | nil => intro n c; rfl
  | cons d s ih => intro n c; exact ih _ c
theorem digit_toNat {d : Nat} (h : d < 10) : (UInt8.ofNat (48 + d)).toNat = 48 + d := by
  rw [UInt8.toNat_ofNat']
  exact Nat.mod_eq_of_lt (by omega)
theorem digit_dig {d : Nat} (h : d < 10) : isDig (UInt8.ofNat (48 + d)) = true := by
  unfold isDig
  rw [digit_toNat h, Nat.ble_eq_true_of_le (by omega), Nat.ble_eq_true_of_le (by omega)]
  rfl
theorem dec_small {u : Nat} (h : u < 10) : decDigits u = [UInt8.ofNat (48 + u)] := decDigits_one h
theorem dec_big {u : Nat} (h : ¬ u < 10) : decDigits u = decDigits (u / 10) ++ [UInt8.ofNat (48 + u % 10)] := by rw [decDigits, dif_neg h]
theorem dec_worth (u : Nat) : numFrom 0 (decDigits u) = u ∧ (decDigits u).all isDig = true := by
  induction u using Nat.strongRecOn with
  | _ u ih =>
    by_cases h : u < 10
    · rw [dec_small h]
      refine ⟨?_, by rw [List.all_cons, digit_dig h]; rfl⟩
      show 0 * 10 + ((UInt8.ofNat (48 + u)).toNat - 48) = u
      rw [digit_toNat h]; omega
    · obtain ⟨h1, h2⟩ := ih (u / 10) (by omega)
      have hm : u % 10 < 10 := Nat.mod_lt _ (by decide)
      rw [dec_big h, numFrom_append, h1, digit_toNat hm]
      refine ⟨by omega, ?_⟩
      rw [List.all_append, h2, List.all_cons, digit_dig hm]
      rfl
theorem dec_head (u : Nat) (h1 : 1 ≤ u) : ∃ c, (decDigits u).head? = some c ∧ c ≠ 48 := by
  induction u using Nat.strongRecOn with
  | _ u ih =>
    by_cases h : u < 10
    · refine ⟨UInt8.ofNat (48 + u), by rw [dec_small h]; rfl, fun e => ?_⟩
      have := congrArg UInt8.toNat e
      rw [digit_toNat h] at this
      have h48 : (48 : UInt8).toNat = 48 := rfl
      rw [h48] at this
      omega
    · obtain ⟨c, hc, hn⟩ := ih (u / 10) (by omega) (by omega)
      refine ⟨c, ?_, hn⟩
      rw [dec_big h, List.head?_append, hc]
      rfl
theorem dec_length (k : Nat) : ∀ u, u < 10 ^ (k + 1) → (decDigits u).length ≤ k + 1 := by
  induction k with
  | zero => intro u h; rw [dec_small (by simpa using h)]; exact Nat.le_refl _
  | succ k ih =>
    intro u h
    by_cases hu : u < 10
    · rw [dec_small hu]; simp
    · rw [dec_big hu, List.length_append]
      have h2 : u / 10 < 10 ^ (k + 1) := by
        rw [Nat.div_lt_iff_lt_mul (by decide)]
        rw [Nat.pow_succ] at h
        exact h
      have := ih _ h2
      simp only [List.length_cons, List.length_nil]
      omega
theorem dec_pos (u : Nat) : (decDigits u).isEmpty = false := by
  by_cases h : u < 10
  · rw [dec_small h]; rfl
  · rw [dec_big h]; simp
theorem dec_fine {u : Nat} (h : u < 10000000000) : numBad (decDigits u) = false := by
  have h1 := dec_length 9 u (by simpa using h)
  have h2 : Nat.blt 10 (decDigits u).length = false := by
    cases hh : Nat.blt 10 (decDigits u).length with
    | false => rfl
    | true => simp at hh; omega
  have h3 : (Nat.blt 1 (decDigits u).length && (decDigits u).head? == some 48) = false := by
    by_cases hu : u < 10
    · rw [dec_small hu]; rfl
    · obtain ⟨c, hc, hn⟩ := dec_head u (by omega)
      rw [hc]
      have : (some c == some (48 : UInt8)) = false := by simpa using hn
      rw [this, Bool.and_false]
  simp only [numBad, dec_pos, h2, h3, (dec_worth u).2, Bool.or_false, Bool.not_true]
theorem itoa_worth {n : Int} (h0 : 0 ≤ n) (h1 : n ≤ 4294967295) : numR (itoa n) 0 4294967295 = (n, true) := by
  have e : itoa n = decDigits n.toNat := by unfold itoa; rw [if_neg (by omega)]
  rw [e, numR, if_neg (by rw [dec_fine (by omega)]; decide), (dec_worth n.toNat).1]
  have hn : ((n.toNat : Nat) : Int) = n := by omega
  rw [hn]
  simp [h0, h1]
/-- tree.number at a number's own digits. -/
theorem worth_call (e : Nat) (lo hi : Int) (h0 : 0 ≤ lo) (h1 : hi ≤ 4294967295) (h : AHeap) : ACall Tryz.prog 97 [.ssym 2 e lo hi, .int .u64 0, .int .u64 4294967295] h fun r h' => r = .ret (.tuple [.isym .u64 e lo hi, .bool true]) ∧ h' = h := by
  intro K w vs H hv
  obtain ⟨n, a1, a2, a3, a4⟩ := ssym_read hv.head
  have hv' : VRs K [.str (itoa n), .int .u64 0, .int .u64 4294967295] vs := hv.first_of fun u hu => by
    obtain ⟨n', b1, _, _, b4⟩ := ssym_read hu
    rw [a1] at b1; subst b1
    exact b4
  refine (number_call (itoa n) 0 4294967295 h K w vs H hv').mono fun x w' ⟨K', h', r, hle, H', hg, hr, hR⟩ => ?_
  obtain ⟨rfl, rfl⟩ := hR
  rw [itoa_worth (by omega) (by omega)] at hr
  refine ⟨K', h', .ret (.tuple [.isym .u64 e lo hi, .bool true]), hle, H', hg, ?_, rfl, rfl⟩
  cases x with
  | returned v => exact VR.pair_of hr fun u hu => .isym_of (by rw [hle.env]; exact a1) a2 a3 hu
  | panicked c => exact hr.elim
  | outgrown => exact hr.elim
theorem itoa_worth' {n least most : Int} (h0 : 0 ≤ n) (h1 : n ≤ 4294967295) (h2 : least ≤ n) (h3 : n ≤ most) : numR (itoa n) least most = (n, true) := by
  have e : itoa n = decDigits n.toNat := by unfold itoa; rw [if_neg (by omega)]
  rw [e, numR, if_neg (by rw [dec_fine (by omega)]; decide), (dec_worth n.toNat).1]
  have hn : ((n.toNat : Nat) : Int) = n := by omega
  rw [hn]
  simp [h2, h3]
/-- The same, with other bounds. -/
theorem worth_call' (e : Nat) (lo hi least most : Int) (h0 : 0 ≤ lo) (h1 : hi ≤ 4294967295) (h2 : least ≤ lo) (h3 : hi ≤ most) (h : AHeap) : ACall Tryz.prog 97 [.ssym 2 e lo hi, .int .u64 least, .int .u64 most] h fun r h' => r = .ret (.tuple [.isym .u64 e lo hi, .bool true]) ∧ h' = h := by
  intro K w vs H hv
  obtain ⟨n, a1, a2, a3, a4⟩ := ssym_read hv.head
  have hv' : VRs K [.str (itoa n), .int .u64 least, .int .u64 most] vs := hv.first_of fun u hu => by
    obtain ⟨n', b1, _, _, b4⟩ := ssym_read hu
    rw [a1] at b1; subst b1
    exact b4
  refine (number_call (itoa n) least most h K w vs H hv').mono fun x w' ⟨K', h', r, hle, H', hg, hr, hR⟩ => ?_
  obtain ⟨rfl, rfl⟩ := hR
  rw [itoa_worth' (by omega) (by omega) (by omega) (by omega)] at hr
  refine ⟨K', h', .ret (.tuple [.isym .u64 e lo hi, .bool true]), hle, H', hg, ?_, rfl, rfl⟩
  cases x with
  | returned v => exact VR.pair_of hr fun u hu => .isym_of (by rw [hle.env]; exact a1) a2 a3 hu
  | panicked c => exact hr.elim
  | outgrown => exact hr.elim
/-- Blocks behind the others change nothing. -/
theorem HRel.grown {K : KW} {h : AHeap} {w w' : World} (H : HRel K h w) (hw : ∀ b, b < w.heap.size → w'.heap[b]? = w.heap[b]?) : HRel K h w' where
  fix b o hb := by have := H.fix b o hb; rw [hw b (heap_lt this)]; exact this
  obj l x hx := (H.obj l x hx).keep (KW.le_refl K) fun p hp => hw _ ((H.obj l x hx).block hp)
  sep := H.sep
  nofix := H.nofix
  fresh := H.fresh
  frame b o hb := let ⟨h1, h2, h3⟩ := H.frame b o hb; ⟨by rw [hw b (heap_lt h1)]; exact h1, h2, h3⟩
  iter l m seen es p q h1 h2 h3 h4 := (H.iter l m seen es p q h1 h2 h3 h4).keep (hw _ ((H.obj l _ h1).block h3)) (hw _ ((H.obj m _ h2).block h4))

end Go.Proofs.YtolacfnciaimhaaGreatDoor
