/- Which texts are names: tree.Name, walked. -/
import Derived.Test.YtpnakjlionifkaaDoorAw17
import Derived.Test.YtpnakjlionifkaaDoorProg
import Derived.KernelRfl
set_option linter.unusedVariables false
set_option linter.unusedSimpArgs false
namespace Go.Proofs.YtpnakjlionifkaaDoor
open Go Go.RowKit
theorem t9k : tkind Tryd.prog 9 = .str := by kernel_rfl
theorem t5k : tkind Tryd.prog 5 = .int .u8 := by kernel_rfl
theorem t3k : tkind Tryd.prog 3 = .int .i64 := by kernel_rfl
theorem t4k : tkind Tryd.prog 4 = .bool := by kernel_rfl

theorem wrap_i64 (n : Int) (h1 : -9223372036854775808 ≤ n) (h2 : n ≤ 9223372036854775807) : IntKind.i64.wrap n = n := by
  unfold IntKind.wrap IntKind.signed IntKind.bits
  simp only [Bool.true_and]
  have : (2 : Int) ^ 64 = 18446744073709551616 := by decide
  have h3 : (2 : Int) ^ (64 - 1) = 9223372036854775808 := by decide
  rw [this, h3]
  by_cases h : n < 0
  · have e : n % 18446744073709551616 = n + 18446744073709551616 := by omega
    rw [e]
    simp only [ge_iff_le, decide_eq_true_eq]
    rw [if_pos (by omega)]
    omega
  · have e : n % 18446744073709551616 = n := by omega
    rw [e]
    simp only [ge_iff_le, decide_eq_true_eq]
    rw [if_neg (by omega)]

/-- A byte that may stand at a place of a name. -/
def nameAt (i : Nat) (c : UInt8) : Bool := (decide ((c.toNat : Int) ≥ 97) && decide ((c.toNat : Int) ≤ 122)) || (decide ((i : Int) > 0) && ((decide ((c.toNat : Int) ≥ 48) && decide ((c.toNat : Int) ≤ 57)) || ((c.toNat : Int) == 95)))
def allName : Nat → List UInt8 → Bool
  | _, [] => true
  | i, c :: s => nameAt i c && allName (i + 1) s
def isName (s : List UInt8) : Bool := !s.isEmpty && decide (s.length ≤ 12) && allName 0 s
theorem allName_get : ∀ (s : List UInt8) (j : Nat), allName j s = true → ∀ (i : Nat) c, s[i]? = some c → nameAt (j + i) c = true
  | [], _, _, i, c, h => by simp at h
  | b :: s, j, ha, 0, c, h => by
    simp only [allName, Bool.and_eq_true] at ha
    simp only [List.getElem?_cons_zero, Option.some.injEq] at h
    subst h
    exact ha.1
  | b :: s, j, ha, i + 1, c, h => by
    simp only [allName, Bool.and_eq_true] at ha
    have := allName_get s (j + 1) ha.2 i c (by simpa using h)
    rw [show j + (i + 1) = j + 1 + i by omega]
    exact this
theorem allName_of : ∀ (s : List UInt8) (j : Nat), (∀ (i : Nat) c, s[i]? = some c → nameAt (j + i) c = true) → allName j s = true
  | [], _, _ => rfl
  | b :: s, j, h => by
    simp only [allName, Bool.and_eq_true]
    refine ⟨h 0 b rfl, allName_of s (j + 1) fun i c e => ?_⟩
    have := h (i + 1) c (by simpa using e)
    rwa [show j + (i + 1) = j + 1 + i by omega] at this
theorem isName_no {s : List UInt8} {k : Nat} {c : UInt8} (h : s[k]? = some c) (hn : nameAt k c = false) : isName s = false := by
  unfold isName
  cases ha : allName 0 s with
  | false => simp
  | true =>
    have := allName_get s 0 ha k c h
    rw [Nat.zero_add, hn] at this
    cases this

set_option maxHeartbeats 8000000 in
theorem name_call (s : List UInt8) (h : AHeap) (hs : s.length ≤ 9223372036854775807) : ACall Tryd.prog 15 [.str s] h fun r h' => r = .ret (.bool (isName s)) ∧ h' = h := by
  refine ACall.of_awp Tryd.func15 rfl Tryd.ntmps15 (by simp) rfl ?_
  simp only [↓awp_skip, ↓awp_region, ↓awp_draw, ↓awp_seq, ↓awp_block, ↓awp_loop, ↓awp_exit, ↓awp_scope, ↓awp_ret, ↓awp_cond, ↓then_normal, ↓then_exit, ↓then_ret, ↓then_panic, ↓inBlock_normal, ↓inBlock_ret, ↓inBlock_panic, ↓inBlock_same, inBlock_other, ↓noGoto_normal, ↓noGoto_exit, ↓noGoto_ret, ↓noGoto_panic, ↓AOps_nil, ↓AOps_cons, ↓AOps_guard, AStep_val, AStep_skip, AStep_call, AStep_pan, dstOK_some, dstOK_none, put_some, put_none, ev_tmp, ev_const, ev_func, upd_at, osome_some, osome_none, osome_ite, cb_t, cb_f, gb_unit, gb_tt, gb_ff, gb_tf, gb_ft, ↓ACnd_true, ↓ACnd_false, ↓AGd_eq, ↓AGo_true, ↓AGo_false, dstAt_list, dstAtL, decide_false, dite_eq_ite, aop, acall, acallf, acallb, otell, ores, ofConst, ofV, entry, alen, aextract, aun, abin, aint, Option.map_some, Option.bind_some, List.map_cons, List.map_nil, Nat.reduceLT, Nat.reduceEqDiff, decide_true, true_and, if_true, if_false, ↓reduceIte, Bool.false_eq_true, ne_eq, not_false_eq_true, List.toList_toArray, reduceCtorEq, t9k]
  refine ALoop.of (s0 := ⟨upd (upd (upd emp 7 (.int .i64 ((0 : Nat) : Int))) 6 (.int .i64 s.length)) 0 (.str s), h, []⟩)
    (fun st => ∃ k : Nat, k ≤ s.length ∧ (∀ i c, i < k → s[i]? = some c → nameAt i c = true) ∧ st = ⟨upd (upd (upd emp 7 (.int .i64 (k : Int))) 6 (.int .i64 s.length)) 0 (.str s), h, []⟩)
    (fun st => match st.t 7 with | .int _ n => s.length - n.toNat | _ => 0) (AState.le_of (le_upd rfl (le_upd rfl (le_upd rfl (le_emp _))))) ⟨0, Nat.zero_le _, fun i c hi => absurd hi (Nat.not_lt_zero _), rfl⟩ ?_
  rintro st ⟨k, hk, hall, rfl⟩
  by_cases hlt : k < s.length
  · have h1 : ((k : Int) < (s.length : Int)) = True := by simp; omega
    have hg : s[k]? = some s[k] := List.getElem?_eq_getElem hlt
    have hw : IntKind.i64.wrap ((k : Int) + 1) = ((k + 1 : Nat) : Int) := wrap_i64 _ (by omega) (by omega)
    have hgo : nameAt k s[k] = true → ∀ i c, i < k + 1 → s[i]? = some c → nameAt i c = true := fun hn i c hi hc => by
      rcases Nat.lt_succ_iff_lt_or_eq.1 hi with hi | rfl
      · exact hall i c hi hc
      · rw [hg] at hc; cases hc; exact hn
    generalize hc : s[k] = c at hg hgo
    have b1 := Classical.em ((c.toNat : Int) ≥ 97)
    have b2 := Classical.em ((c.toNat : Int) ≤ 122)
    have b3 := Classical.em ((k : Int) > 0)
    have b4 := Classical.em ((c.toNat : Int) ≥ 48)
    have b5 := Classical.em ((c.toNat : Int) ≤ 57)
    have b6 : ((c.toNat : Int) == 95) = true ∨ ((c.toNat : Int) == 95) = false := by cases ((c.toNat : Int) == 95) <;> simp
    rcases b1 with b1 | b1 <;> rcases b2 with b2 | b2 <;> rcases b3 with b3 | b3 <;> rcases b4 with b4 | b4 <;> rcases b5 with b5 | b5 <;> rcases b6 with b6 | b6 <;> first
      | (exfalso; omega)
      | (simp only [↓awp_skip, ↓awp_region, ↓awp_draw, ↓awp_seq, ↓awp_block, ↓awp_loop, ↓awp_exit, ↓awp_scope, ↓awp_ret, ↓awp_cond, ↓then_normal, ↓then_exit, ↓then_ret, ↓then_panic, ↓inBlock_normal, ↓inBlock_ret, ↓inBlock_panic, ↓inBlock_same, inBlock_other, ↓noGoto_normal, ↓noGoto_exit, ↓noGoto_ret, ↓noGoto_panic, ↓AOps_nil, ↓AOps_cons, ↓AOps_guard, AStep_val, AStep_skip, AStep_call, AStep_pan, dstOK_some, dstOK_none, put_some, put_none, ev_tmp, ev_const, ev_func, upd_at, osome_some, osome_none, osome_ite, cb_t, cb_f, gb_unit, gb_tt, gb_ff, gb_tf, gb_ft, ↓ACnd_true, ↓ACnd_false, ↓AGd_eq, ↓AGo_true, ↓AGo_false, dstAt_list, dstAtL, decide_false, dite_eq_ite, aop, acall, acallf, acallb, otell, ores, ofConst, ofV, entry, alen, aextract, aun, abin, aint, Option.map_some, Option.bind_some, List.map_cons, List.map_nil, Nat.reduceLT, Nat.reduceEqDiff, decide_true, true_and, if_true, if_false, ↓reduceIte, Bool.false_eq_true, ne_eq, not_false_eq_true, List.toList_toArray, reduceCtorEq, t9k, t5k, h1, aindex, Int.toNat_natCast, hg, Int.natCast_nonneg, b1, b2, b3, b4, b5, b6, hw]
         first
           | exact ⟨⟨upd (upd (upd emp 7 (.int .i64 ((k + 1 : Nat) : Int))) 6 (.int .i64 s.length)) 0 (.str s), h, []⟩, AState.le_of (le_upd rfl (le_upd rfl (le_upd rfl (le_emp _)))), ⟨k + 1, hlt, hgo (by simp only [nameAt, b1, b2, b3, b4, b5, b6]; decide), rfl⟩, by show s.length - ((k + 1 : Nat) : Int).toNat < s.length - k; omega⟩
           | exact AFin.ret_of (v := .bool false) (h' := h) rfl rfl ⟨by rw [isName_no hg (by simp only [nameAt, b1, b2, b3, b4, b5, b6]; decide)], rfl⟩)
  · have h1 : ((k : Int) < (s.length : Int)) = False := by simp; omega
    have hke : k = s.length := by omega
    subst hke
    have hn : allName 0 s = true := allName_of s 0 fun i c e => by
      rw [Nat.zero_add]
      exact hall i c (List.getElem?_eq_some_iff.1 e).1 e
    obtain ⟨b, hb, hbe⟩ : ∃ b, astr .neq s [] = some (.bool b) ∧ b = !s.isEmpty := by
      cases s with
      | nil => exact ⟨_, rfl, rfl⟩
      | cons c s => exact ⟨_, rfl, by simp⟩
    have b2 := Classical.em ((s.length : Int) ≤ 12)
    rcases b2 with b2 | b2 <;> cases b <;>
      (simp only [↓awp_skip, ↓awp_region, ↓awp_draw, ↓awp_seq, ↓awp_block, ↓awp_loop, ↓awp_exit, ↓awp_scope, ↓awp_ret, ↓awp_cond, ↓then_normal, ↓then_exit, ↓then_ret, ↓then_panic, ↓inBlock_normal, ↓inBlock_ret, ↓inBlock_panic, ↓inBlock_same, inBlock_other, ↓noGoto_normal, ↓noGoto_exit, ↓noGoto_ret, ↓noGoto_panic, ↓AOps_nil, ↓AOps_cons, ↓AOps_guard, AStep_val, AStep_skip, AStep_call, AStep_pan, dstOK_some, dstOK_none, put_some, put_none, ev_tmp, ev_const, ev_func, upd_at, osome_some, osome_none, osome_ite, cb_t, cb_f, gb_unit, gb_tt, gb_ff, gb_tf, gb_ft, ↓ACnd_true, ↓ACnd_false, ↓AGd_eq, ↓AGo_true, ↓AGo_false, dstAt_list, dstAtL, decide_false, dite_eq_ite, aop, acall, acallf, acallb, otell, ores, ofConst, ofV, entry, alen, aextract, aun, abin, aint, Option.map_some, Option.bind_some, List.map_cons, List.map_nil, Nat.reduceLT, Nat.reduceEqDiff, decide_true, true_and, if_true, if_false, ↓reduceIte, Bool.false_eq_true, ne_eq, not_false_eq_true, List.toList_toArray, reduceCtorEq, t9k, t5k, h1, hb, b2]
       refine AFin.ret_of rfl rfl ⟨?_, rfl⟩
       simp only [isName, ← hbe, hn]
       first
         | rfl
         | (have hd : decide (s.length ≤ 12) = true := by simp; omega
            rw [hd]; rfl)
         | (have hd : decide (s.length ≤ 12) = false := by simp; omega
            rw [hd]; rfl))

end Go.Proofs.YtpnakjlionifkaaDoor
