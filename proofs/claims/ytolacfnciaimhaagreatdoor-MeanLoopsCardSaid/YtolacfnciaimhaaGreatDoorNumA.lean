/- What a text is worth as a number: tree.number, walked. -/
import Derived.Test.YtolacfnciaimhaaGreatDoorAw18
import Derived.Test.YtolacfnciaimhaaGreatDoorProg
import Derived.KernelRfl
set_option linter.unusedVariables false
set_option linter.unusedSimpArgs false
namespace Go.Proofs.YtolacfnciaimhaaGreatDoor
open Go Go.RowKit
theorem n9k : tkind Tryz.prog 9 = .str := by kernel_rfl
theorem n5k : tkind Tryz.prog 5 = .int .u8 := by kernel_rfl
theorem n64k : tkind Tryz.prog 161 = .int .u64 := by kernel_rfl
theorem n5u : (Tryz.prog.underlying 5).isSome = true := by kernel_rfl

def isDig (c : UInt8) : Bool := Nat.ble 48 c.toNat && Nat.ble c.toNat 57
def numFrom : Nat → List UInt8 → Nat
  | n, [] => n
  | n, c :: s => numFrom (n * 10 + (c.toNat - 48)) s
def numBad (s : List UInt8) : Bool := s.isEmpty || Nat.blt 10 s.length || (Nat.blt 1 s.length && s.head? == some 48) || !s.all isDig
def numR (s : List UInt8) (least most : Int) : Int × Bool := if numBad s then (0, false) else (numFrom 0 s, decide ((numFrom 0 s : Int) ≥ least) && decide ((numFrom 0 s : Int) ≤ most))

theorem numFrom_step (n d m : Nat) (h : d ≤ 9) : (n * 10 + d + 1) * m ≤ (n + 1) * (m * 10) := by
  rw [Nat.mul_comm m 10, ← Nat.mul_assoc]
  exact Nat.mul_le_mul_right _ (by omega)
theorem isDig_le {c : UInt8} (h : isDig c = true) : 48 ≤ c.toNat ∧ c.toNat ≤ 57 := by
  unfold isDig at h
  rw [Bool.and_eq_true] at h
  exact ⟨Nat.le_of_ble_eq_true h.1, Nat.le_of_ble_eq_true h.2⟩
theorem numFrom_lt (s : List UInt8) : ∀ n : Nat, s.all isDig = true → numFrom n s < (n + 1) * 10 ^ s.length := by
  induction s with
  | nil => intro n _; show n < (n + 1) * 1; omega
  | cons c s ih =>
    intro n h
    rw [List.all_cons, Bool.and_eq_true] at h
    have hd := isDig_le h.1
    have h9 : c.toNat - 48 ≤ 9 := by omega
    exact Nat.lt_of_lt_of_le (ih (n * 10 + (c.toNat - 48)) h.2) (numFrom_step n _ _ h9)
theorem numFrom_take (s : List UInt8) : ∀ (n k : Nat) (c : UInt8), s[k]? = some c → numFrom n (s.take (k + 1)) = numFrom n (s.take k) * 10 + (c.toNat - 48) := by
  induction s with
  | nil => intro n k c h; simp at h
  | cons d s ih =>
    intro n k c h
    cases k with
    | zero =>
      rw [List.getElem?_cons_zero, Option.some.injEq] at h
      subst h
      rfl
    | succ k =>
      rw [List.getElem?_cons_succ] at h
      exact ih _ k c h
theorem all_take (s : List UInt8) (k : Nat) (h : ∀ i c, i < k → s[i]? = some c → isDig c = true) : (s.take k).all isDig = true := by
  rw [List.all_eq_true]
  intro c hc
  obtain ⟨i, hi⟩ := List.getElem?_of_mem hc
  rw [List.getElem?_take] at hi
  split at hi
  · exact h i c (by assumption) hi
  · cases hi
theorem numBad_dig {s : List UInt8} {k : Nat} {c : UInt8} (h : s[k]? = some c) (hd : isDig c = false) : numBad s = true := by
  have : s.all isDig = false := by
    cases hh : s.all isDig with
    | false => rfl
    | true =>
      have := List.all_eq_true.1 hh c (List.mem_of_getElem? h)
      rw [hd] at this; cases this
  simp [numBad, this]
theorem wrap_u64 (n : Int) (h1 : 0 ≤ n) (h2 : n ≤ 18446744073709551615) : IntKind.u64.wrap n = n := by
  refine wrap_id ?_ ?_ <;> simp [IntKind.min, IntKind.max, IntKind.signed, IntKind.bits] <;> omega
theorem wrap_u8 (n : Int) (h1 : 0 ≤ n) (h2 : n ≤ 255) : IntKind.u8.wrap n = n := by
  refine wrap_id ?_ ?_ <;> simp [IntKind.min, IntKind.max, IntKind.signed, IntKind.bits] <;> omega
theorem wrap_i64' (n : Int) (h1 : 0 ≤ n) (h2 : n ≤ 9223372036854775807) : IntKind.i64.wrap n = n := by
  refine wrap_id ?_ ?_ <;> simp [IntKind.min, IntKind.max, IntKind.signed, IntKind.bits] <;> omega

set_option maxHeartbeats 8000000 in
theorem number_call (s : List UInt8) (least most : Int) (h : AHeap) : ACall Tryz.prog 97 [.str s, .int .u64 least, .int .u64 most] h fun r h' => r = .ret (.tuple [.int .u64 (numR s least most).1, .bool (numR s least most).2]) ∧ h' = h := by
  refine ACall.of_awp Tryz.func97 rfl Tryz.ntmps97 (by simp) rfl ?_
  have bad : numBad s = true → (.tuple [.int .u64 (numR s least most).1, .bool (numR s least most).2] : AV) = .tuple [.int .u64 0, .bool false] := fun hb => by simp [numR, hb]
  -- the first look
  rcases Classical.em (s = []) with h0 | h0
  · subst h0
    have e0 : (([] : List UInt8) == ([] : List UInt8)) = true := rfl
    simp only [↓awp_skip, ↓awp_region, ↓awp_draw, ↓awp_seq, ↓awp_block, ↓awp_loop, ↓awp_exit, ↓awp_scope, ↓awp_ret, ↓awp_cond, ↓then_normal, ↓then_exit, ↓then_ret, ↓then_panic, ↓inBlock_normal, ↓inBlock_ret, ↓inBlock_panic, ↓inBlock_same, inBlock_other, ↓noGoto_normal, ↓noGoto_exit, ↓noGoto_ret, ↓noGoto_panic, ↓AOps_nil, ↓AOps_cons, ↓AOps_guard, AStep_val, AStep_skip, AStep_call, AStep_pan, dstOK_some, dstOK_none, put_some, put_none, ev_tmp, ev_const, ev_func, upd_at, osome_some, osome_none, osome_ite, cb_t, cb_f, gb_unit, gb_tt, gb_ff, gb_tf, gb_ft, ↓ACnd_true, ↓ACnd_false, ↓AGd_eq, ↓AGo_true, ↓AGo_false, dstAt_list, dstAtL, decide_false, dite_eq_ite, aop, acall, acallf, acallb, otell, ores, defull, nrm, ofConst, ofV, entry, alen, aextract, aun, abin, aint, Option.map_some, Option.bind_some, List.map_cons, List.map_nil, Nat.reduceLT, Nat.reduceEqDiff, decide_true, true_and, if_true, if_false, ↓reduceIte, Bool.false_eq_true, ne_eq, not_false_eq_true, List.toList_toArray, reduceCtorEq, n9k, astr, e0]
    rw [bad rfl]
    exact AFin.ret_of (v := .tuple [.int .u64 0, .bool false]) (h' := h) rfl rfl ⟨rfl, rfl⟩
  have e0 : (s == ([] : List UInt8)) = false := by simpa using h0
  rcases Classical.em ((s.length : Int) > 10) with h1 | h1
  · simp only [↓awp_skip, ↓awp_region, ↓awp_draw, ↓awp_seq, ↓awp_block, ↓awp_loop, ↓awp_exit, ↓awp_scope, ↓awp_ret, ↓awp_cond, ↓then_normal, ↓then_exit, ↓then_ret, ↓then_panic, ↓inBlock_normal, ↓inBlock_ret, ↓inBlock_panic, ↓inBlock_same, inBlock_other, ↓noGoto_normal, ↓noGoto_exit, ↓noGoto_ret, ↓noGoto_panic, ↓AOps_nil, ↓AOps_cons, ↓AOps_guard, AStep_val, AStep_skip, AStep_call, AStep_pan, dstOK_some, dstOK_none, put_some, put_none, ev_tmp, ev_const, ev_func, upd_at, osome_some, osome_none, osome_ite, cb_t, cb_f, gb_unit, gb_tt, gb_ff, gb_tf, gb_ft, ↓ACnd_true, ↓ACnd_false, ↓AGd_eq, ↓AGo_true, ↓AGo_false, dstAt_list, dstAtL, decide_false, dite_eq_ite, aop, acall, acallf, acallb, otell, ores, defull, nrm, ofConst, ofV, entry, alen, aextract, aun, abin, aint, Option.map_some, Option.bind_some, List.map_cons, List.map_nil, Nat.reduceLT, Nat.reduceEqDiff, decide_true, true_and, if_true, if_false, ↓reduceIte, Bool.false_eq_true, ne_eq, not_false_eq_true, List.toList_toArray, reduceCtorEq, n9k, astr, e0, h1]
    rw [bad (by simp [numBad]; omega)]
    exact AFin.ret_of (v := .tuple [.int .u64 0, .bool false]) (h' := h) rfl rfl ⟨rfl, rfl⟩
  have hlen : s.length ≤ 10 := by omega
  have h1' : ((s.length : Int) > 10) = False := by simp; omega
  have hpos : 0 < s.length := by cases s with
    | nil => exact absurd rfl h0
    | cons c s' => simp
  have hg0 : s[0]? = some s[0] := List.getElem?_eq_getElem hpos
  have hh0 : s.head? = some s[0] := by rw [List.head?_eq_getElem?]; exact hg0
  generalize hc0 : s[0] = c0 at hg0 hh0
  -- the loop, whichever way it is come to
  let st0 : Nat → AState := fun k => ⟨upd (upd (upd (upd (upd (upd emp 29 (.int .i64 (k : Int))) 28 (.int .i64 s.length)) 8 (.int .u64 (numFrom 0 (s.take k) : Nat))) 2 (.int .u64 most)) 1 (.int .u64 least)) 0 (.str s), h, []⟩
  have bnd : ∀ k, k ≤ s.length → (∀ i c, i < k → s[i]? = some c → isDig c = true) → numFrom 0 (s.take k) < 10000000000 := fun k hk hall => by
    have h1 := numFrom_lt (s.take k) 0 (all_take s k hall)
    have h2 : (s.take k).length ≤ 10 := by rw [List.length_take]; exact Nat.le_trans (Nat.min_le_left _ _) (Nat.le_trans hk hlen)
    have h3 : (10 : Nat) ^ (s.take k).length ≤ 10 ^ 10 := Nat.pow_le_pow_right (by decide) h2
    have h4 : (10 : Nat) ^ 10 = 10000000000 := by decide
    rw [Nat.zero_add, Nat.one_mul] at h1
    rw [h4] at h3
    exact Nat.lt_of_lt_of_le h1 h3
  have fin : ∀ (good : ¬ (s.length > 1 ∧ c0.toNat = 48)), (∀ i c, i < s.length → s[i]? = some c → isDig c = true) → numBad s = false := fun good hall => by
    have ha : s.all isDig = true := by have := all_take s s.length hall; rwa [List.take_length] at this
    have hb : Nat.blt 10 s.length = false := by
      cases hh : Nat.blt 10 s.length with
      | false => rfl
      | true => simp at hh; omega
    have he : s.isEmpty = false := by simpa using h0
    have hc : (Nat.blt 1 s.length && s.head? == some 48) = false := by
      rw [hh0]
      cases hh : Nat.blt 1 s.length with
      | false => rfl
      | true =>
        have h1 : 1 < s.length := by simpa using hh
        have : c0 ≠ 48 := fun e => good ⟨h1, by rw [e]; rfl⟩
        simpa using this
    simp only [numBad, ha, hb, he, hc, Bool.or_false, Bool.not_true]
  rcases Classical.em ((s.length : Int) > 1) with h2 | h2
  · rcases (show ((c0.toNat : Int) == 48) = true ∨ ((c0.toNat : Int) == 48) = false by cases ((c0.toNat : Int) == 48) <;> simp) with h3 | h3
    · simp only [↓awp_skip, ↓awp_region, ↓awp_draw, ↓awp_seq, ↓awp_block, ↓awp_loop, ↓awp_exit, ↓awp_scope, ↓awp_ret, ↓awp_cond, ↓then_normal, ↓then_exit, ↓then_ret, ↓then_panic, ↓inBlock_normal, ↓inBlock_ret, ↓inBlock_panic, ↓inBlock_same, inBlock_other, ↓noGoto_normal, ↓noGoto_exit, ↓noGoto_ret, ↓noGoto_panic, ↓AOps_nil, ↓AOps_cons, ↓AOps_guard, AStep_val, AStep_skip, AStep_call, AStep_pan, dstOK_some, dstOK_none, put_some, put_none, ev_tmp, ev_const, ev_func, upd_at, osome_some, osome_none, osome_ite, cb_t, cb_f, gb_unit, gb_tt, gb_ff, gb_tf, gb_ft, ↓ACnd_true, ↓ACnd_false, ↓AGd_eq, ↓AGo_true, ↓AGo_false, dstAt_list, dstAtL, decide_false, dite_eq_ite, aop, acall, acallf, acallb, otell, ores, defull, nrm, ofConst, ofV, entry, alen, aextract, aun, abin, aint, Option.map_some, Option.bind_some, List.map_cons, List.map_nil, Nat.reduceLT, Nat.reduceEqDiff, decide_true, true_and, if_true, if_false, ↓reduceIte, Bool.false_eq_true, ne_eq, not_false_eq_true, List.toList_toArray, reduceCtorEq, n9k, astr, e0, h1', h2, h3, aindex, Int.toNat_zero, hg0, Int.le_refl]
      rw [bad (by
        have hc : c0 = 48 := by
          have : c0.toNat = 48 := by simp at h3; omega
          exact UInt8.toNat_inj.1 this
        have hb : Nat.blt 1 s.length = true := by simp; omega
        simp [numBad, hh0, hc, hb])]
      exact AFin.ret_of (v := .tuple [.int .u64 0, .bool false]) (h' := h) rfl rfl ⟨rfl, rfl⟩
    · have good : ¬ (s.length > 1 ∧ c0.toNat = 48) := fun hh => by simp at h3; omega
      simp only [↓awp_skip, ↓awp_region, ↓awp_draw, ↓awp_seq, ↓awp_block, ↓awp_loop, ↓awp_exit, ↓awp_scope, ↓awp_ret, ↓awp_cond, ↓then_normal, ↓then_exit, ↓then_ret, ↓then_panic, ↓inBlock_normal, ↓inBlock_ret, ↓inBlock_panic, ↓inBlock_same, inBlock_other, ↓noGoto_normal, ↓noGoto_exit, ↓noGoto_ret, ↓noGoto_panic, ↓AOps_nil, ↓AOps_cons, ↓AOps_guard, AStep_val, AStep_skip, AStep_call, AStep_pan, dstOK_some, dstOK_none, put_some, put_none, ev_tmp, ev_const, ev_func, upd_at, osome_some, osome_none, osome_ite, cb_t, cb_f, gb_unit, gb_tt, gb_ff, gb_tf, gb_ft, ↓ACnd_true, ↓ACnd_false, ↓AGd_eq, ↓AGo_true, ↓AGo_false, dstAt_list, dstAtL, decide_false, dite_eq_ite, aop, acall, acallf, acallb, otell, ores, defull, nrm, ofConst, ofV, entry, alen, aextract, aun, abin, aint, Option.map_some, Option.bind_some, List.map_cons, List.map_nil, Nat.reduceLT, Nat.reduceEqDiff, decide_true, true_and, if_true, if_false, ↓reduceIte, Bool.false_eq_true, ne_eq, not_false_eq_true, List.toList_toArray, reduceCtorEq, n9k, astr, e0, h1', h2, h3, aindex, Int.toNat_zero, hg0, Int.le_refl]
      refine ALoop.of (s0 := st0 0) (fun st => ∃ k : Nat, k ≤ s.length ∧ (∀ i c, i < k → s[i]? = some c → isDig c = true) ∧ st = st0 k)
        (fun st => match st.t 29 with | .int _ n => s.length - n.toNat | _ => 0) (AState.le_of (le_upd rfl (le_upd rfl (le_upd rfl (le_upd rfl (le_upd rfl (le_upd rfl (le_emp _)))))))) ⟨0, Nat.zero_le _, fun i c hi => absurd hi (Nat.not_lt_zero _), rfl⟩ ?_
      rintro st ⟨k, hk, hall, rfl⟩
      by_cases hlt : k < s.length
      · have hkl : ((k : Int) < (s.length : Int)) = True := by simp; omega
        have hg : s[k]? = some s[k] := List.getElem?_eq_getElem hlt
        have hw : IntKind.i64.wrap ((k : Int) + 1) = ((k + 1 : Nat) : Int) := wrap_i64' _ (by omega) (by omega)
        generalize hc : s[k] = c at hg
        have hcb : c.toNat < 256 := c.toNat_lt
        rcases Classical.em ((c.toNat : Int) < 48) with b1 | b1
        · simp only [↓awp_skip, ↓awp_region, ↓awp_draw, ↓awp_seq, ↓awp_block, ↓awp_loop, ↓awp_exit, ↓awp_scope, ↓awp_ret, ↓awp_cond, ↓then_normal, ↓then_exit, ↓then_ret, ↓then_panic, ↓inBlock_normal, ↓inBlock_ret, ↓inBlock_panic, ↓inBlock_same, inBlock_other, ↓noGoto_normal, ↓noGoto_exit, ↓noGoto_ret, ↓noGoto_panic, ↓AOps_nil, ↓AOps_cons, ↓AOps_guard, AStep_val, AStep_skip, AStep_call, AStep_pan, dstOK_some, dstOK_none, put_some, put_none, ev_tmp, ev_const, ev_func, upd_at, osome_some, osome_none, osome_ite, cb_t, cb_f, gb_unit, gb_tt, gb_ff, gb_tf, gb_ft, ↓ACnd_true, ↓ACnd_false, ↓AGd_eq, ↓AGo_true, ↓AGo_false, dstAt_list, dstAtL, decide_false, dite_eq_ite, aop, acall, acallf, acallb, otell, ores, defull, nrm, ofConst, ofV, entry, alen, aextract, aun, abin, aint, Option.map_some, Option.bind_some, List.map_cons, List.map_nil, Nat.reduceLT, Nat.reduceEqDiff, decide_true, true_and, if_true, if_false, ↓reduceIte, Bool.false_eq_true, ne_eq, not_false_eq_true, List.toList_toArray, reduceCtorEq, st0, n9k, n5k, hkl, aindex, Int.toNat_natCast, hg, Int.natCast_nonneg, b1]
          rw [bad (numBad_dig hg (by unfold isDig; rw [show Nat.ble 48 c.toNat = false from by cases hh : Nat.ble 48 c.toNat with | false => rfl | true => (have := Nat.le_of_ble_eq_true hh; omega)]; rfl))]
          exact AFin.ret_of (v := .tuple [.int .u64 0, .bool false]) (h' := h) rfl rfl ⟨rfl, rfl⟩
        · rcases Classical.em ((c.toNat : Int) > 57) with b2 | b2
          · simp only [↓awp_skip, ↓awp_region, ↓awp_draw, ↓awp_seq, ↓awp_block, ↓awp_loop, ↓awp_exit, ↓awp_scope, ↓awp_ret, ↓awp_cond, ↓then_normal, ↓then_exit, ↓then_ret, ↓then_panic, ↓inBlock_normal, ↓inBlock_ret, ↓inBlock_panic, ↓inBlock_same, inBlock_other, ↓noGoto_normal, ↓noGoto_exit, ↓noGoto_ret, ↓noGoto_panic, ↓AOps_nil, ↓AOps_cons, ↓AOps_guard, AStep_val, AStep_skip, AStep_call, AStep_pan, dstOK_some, dstOK_none, put_some, put_none, ev_tmp, ev_const, ev_func, upd_at, osome_some, osome_none, osome_ite, cb_t, cb_f, gb_unit, gb_tt, gb_ff, gb_tf, gb_ft, ↓ACnd_true, ↓ACnd_false, ↓AGd_eq, ↓AGo_true, ↓AGo_false, dstAt_list, dstAtL, decide_false, dite_eq_ite, aop, acall, acallf, acallb, otell, ores, defull, nrm, ofConst, ofV, entry, alen, aextract, aun, abin, aint, Option.map_some, Option.bind_some, List.map_cons, List.map_nil, Nat.reduceLT, Nat.reduceEqDiff, decide_true, true_and, if_true, if_false, ↓reduceIte, Bool.false_eq_true, ne_eq, not_false_eq_true, List.toList_toArray, reduceCtorEq, st0, n9k, n5k, hkl, aindex, Int.toNat_natCast, hg, Int.natCast_nonneg, b1, b2]
            rw [bad (numBad_dig hg (by unfold isDig; rw [show Nat.ble c.toNat 57 = false from by cases hh : Nat.ble c.toNat 57 with | false => rfl | true => (have := Nat.le_of_ble_eq_true hh; omega)]; simp))]
            exact AFin.ret_of (v := .tuple [.int .u64 0, .bool false]) (h' := h) rfl rfl ⟨rfl, rfl⟩
          · have hdig : isDig c = true := by
              unfold isDig
              rw [Nat.ble_eq_true_of_le (by omega), Nat.ble_eq_true_of_le (by omega)]; rfl
            have hall' : ∀ i c, i < k + 1 → s[i]? = some c → isDig c = true := fun i c' hi hc' => by
              rcases Nat.lt_succ_iff_lt_or_eq.1 hi with hi | rfl
              · exact hall i c' hi hc'
              · rw [hg] at hc'; cases hc'; exact hdig
            have hb1 := bnd k hk hall
            have hb2 := bnd (k + 1) hlt hall'
            have htk := numFrom_take s 0 k c hg
            rw [htk] at hb2
            have w1 : IntKind.u8.wrap ((c.toNat : Int) - 48) = ((c.toNat - 48 : Nat) : Int) := by rw [wrap_u8 _ (by omega) (by omega)]; omega
            have w2 : IntKind.u64.wrap ((c.toNat - 48 : Nat) : Int) = ((c.toNat - 48 : Nat) : Int) := wrap_u64 _ (by omega) (by omega)
            have w3 : IntKind.u64.wrap ((numFrom 0 (s.take k) : Int) * 10) = ((numFrom 0 (s.take k) * 10 : Nat) : Int) := by rw [wrap_u64 _ (by omega) (by omega)]; omega
            have w4 : IntKind.u64.wrap (((numFrom 0 (s.take k) * 10 : Nat) : Int) + ((c.toNat - 48 : Nat) : Int)) = ((numFrom 0 (s.take (k + 1)) : Nat) : Int) := by rw [wrap_u64 _ (by omega) (by omega), htk]; omega
            simp only [↓awp_skip, ↓awp_region, ↓awp_draw, ↓awp_seq, ↓awp_block, ↓awp_loop, ↓awp_exit, ↓awp_scope, ↓awp_ret, ↓awp_cond, ↓then_normal, ↓then_exit, ↓then_ret, ↓then_panic, ↓inBlock_normal, ↓inBlock_ret, ↓inBlock_panic, ↓inBlock_same, inBlock_other, ↓noGoto_normal, ↓noGoto_exit, ↓noGoto_ret, ↓noGoto_panic, ↓AOps_nil, ↓AOps_cons, ↓AOps_guard, AStep_val, AStep_skip, AStep_call, AStep_pan, dstOK_some, dstOK_none, put_some, put_none, ev_tmp, ev_const, ev_func, upd_at, osome_some, osome_none, osome_ite, cb_t, cb_f, gb_unit, gb_tt, gb_ff, gb_tf, gb_ft, ↓ACnd_true, ↓ACnd_false, ↓AGd_eq, ↓AGo_true, ↓AGo_false, dstAt_list, dstAtL, decide_false, dite_eq_ite, aop, acall, acallf, acallb, otell, ores, defull, nrm, ofConst, ofV, entry, alen, aextract, aun, abin, aint, Option.map_some, Option.bind_some, List.map_cons, List.map_nil, Nat.reduceLT, Nat.reduceEqDiff, decide_true, true_and, if_true, if_false, ↓reduceIte, Bool.false_eq_true, ne_eq, not_false_eq_true, List.toList_toArray, reduceCtorEq, st0, n9k, n5k, n64k, n5u, hkl, aindex, aconv, Int.toNat_natCast, hg, Int.natCast_nonneg, b1, b2, w1, w2, w3, w4, hw]
            exact ⟨st0 (k + 1), AState.le_of (le_upd rfl (le_upd rfl (le_upd rfl (le_upd rfl (le_upd rfl (le_upd rfl (le_emp _))))))), ⟨k + 1, hlt, hall', rfl⟩, by show s.length - ((k + 1 : Nat) : Int).toNat < s.length - ((k : Nat) : Int).toNat; omega⟩
      · have hkl : ((k : Int) < (s.length : Int)) = False := by simp; omega
        have hke : k = s.length := by omega
        subst hke
        have hnb := fin good hall
        have hres : (.tuple [.int .u64 (numR s least most).1, .bool (numR s least most).2] : AV) = .tuple [.int .u64 (numFrom 0 s : Nat), .bool (decide ((numFrom 0 s : Int) ≥ least) && decide ((numFrom 0 s : Int) ≤ most))] := by
          simp [numR, hnb]
        rw [hres]
        have htl : numFrom 0 (s.take s.length) = numFrom 0 s := by rw [List.take_length]
        rcases Classical.em ((numFrom 0 s : Int) ≥ least) with c1 | c1 <;> rcases Classical.em ((numFrom 0 s : Int) ≤ most) with c2 | c2 <;>
          (simp only [↓awp_skip, ↓awp_region, ↓awp_draw, ↓awp_seq, ↓awp_block, ↓awp_loop, ↓awp_exit, ↓awp_scope, ↓awp_ret, ↓awp_cond, ↓then_normal, ↓then_exit, ↓then_ret, ↓then_panic, ↓inBlock_normal, ↓inBlock_ret, ↓inBlock_panic, ↓inBlock_same, inBlock_other, ↓noGoto_normal, ↓noGoto_exit, ↓noGoto_ret, ↓noGoto_panic, ↓AOps_nil, ↓AOps_cons, ↓AOps_guard, AStep_val, AStep_skip, AStep_call, AStep_pan, dstOK_some, dstOK_none, put_some, put_none, ev_tmp, ev_const, ev_func, upd_at, osome_some, osome_none, osome_ite, cb_t, cb_f, gb_unit, gb_tt, gb_ff, gb_tf, gb_ft, ↓ACnd_true, ↓ACnd_false, ↓AGd_eq, ↓AGo_true, ↓AGo_false, dstAt_list, dstAtL, decide_false, dite_eq_ite, aop, acall, acallf, acallb, otell, ores, defull, nrm, ofConst, ofV, entry, alen, aextract, aun, abin, aint, Option.map_some, Option.bind_some, List.map_cons, List.map_nil, Nat.reduceLT, Nat.reduceEqDiff, decide_true, true_and, if_true, if_false, ↓reduceIte, Bool.false_eq_true, ne_eq, not_false_eq_true, List.toList_toArray, reduceCtorEq, st0, hkl, htl, c1, c2]
           exact AFin.ret_of (v := .tuple [.int .u64 (numFrom 0 s : Nat), .bool _]) (h' := h) rfl rfl ⟨by simp [c1, c2], rfl⟩)
  · have good : ¬ (s.length > 1 ∧ c0.toNat = 48) := fun hh => by omega
    simp only [↓awp_skip, ↓awp_region, ↓awp_draw, ↓awp_seq, ↓awp_block, ↓awp_loop, ↓awp_exit, ↓awp_scope, ↓awp_ret, ↓awp_cond, ↓then_normal, ↓then_exit, ↓then_ret, ↓then_panic, ↓inBlock_normal, ↓inBlock_ret, ↓inBlock_panic, ↓inBlock_same, inBlock_other, ↓noGoto_normal, ↓noGoto_exit, ↓noGoto_ret, ↓noGoto_panic, ↓AOps_nil, ↓AOps_cons, ↓AOps_guard, AStep_val, AStep_skip, AStep_call, AStep_pan, dstOK_some, dstOK_none, put_some, put_none, ev_tmp, ev_const, ev_func, upd_at, osome_some, osome_none, osome_ite, cb_t, cb_f, gb_unit, gb_tt, gb_ff, gb_tf, gb_ft, ↓ACnd_true, ↓ACnd_false, ↓AGd_eq, ↓AGo_true, ↓AGo_false, dstAt_list, dstAtL, decide_false, dite_eq_ite, aop, acall, acallf, acallb, otell, ores, defull, nrm, ofConst, ofV, entry, alen, aextract, aun, abin, aint, Option.map_some, Option.bind_some, List.map_cons, List.map_nil, Nat.reduceLT, Nat.reduceEqDiff, decide_true, true_and, if_true, if_false, ↓reduceIte, Bool.false_eq_true, ne_eq, not_false_eq_true, List.toList_toArray, reduceCtorEq, n9k, astr, e0, h1', h2, aindex, Int.toNat_zero, hg0, Int.le_refl]
    refine ALoop.of (s0 := st0 0) (fun st => ∃ k : Nat, k ≤ s.length ∧ (∀ i c, i < k → s[i]? = some c → isDig c = true) ∧ st = st0 k)
      (fun st => match st.t 29 with | .int _ n => s.length - n.toNat | _ => 0) (AState.le_of (le_upd rfl (le_upd rfl (le_upd rfl (le_upd rfl (le_upd rfl (le_upd rfl (le_emp _)))))))) ⟨0, Nat.zero_le _, fun i c hi => absurd hi (Nat.not_lt_zero _), rfl⟩ ?_
    rintro st ⟨k, hk, hall, rfl⟩
    by_cases hlt : k < s.length
    · have hkl : ((k : Int) < (s.length : Int)) = True := by simp; omega
      have hg : s[k]? = some s[k] := List.getElem?_eq_getElem hlt
      have hw : IntKind.i64.wrap ((k : Int) + 1) = ((k + 1 : Nat) : Int) := wrap_i64' _ (by omega) (by omega)
      generalize hc : s[k] = c at hg
      have hcb : c.toNat < 256 := c.toNat_lt
      rcases Classical.em ((c.toNat : Int) < 48) with b1 | b1
      · simp only [↓awp_skip, ↓awp_region, ↓awp_draw, ↓awp_seq, ↓awp_block, ↓awp_loop, ↓awp_exit, ↓awp_scope, ↓awp_ret, ↓awp_cond, ↓then_normal, ↓then_exit, ↓then_ret, ↓then_panic, ↓inBlock_normal, ↓inBlock_ret, ↓inBlock_panic, ↓inBlock_same, inBlock_other, ↓noGoto_normal, ↓noGoto_exit, ↓noGoto_ret, ↓noGoto_panic, ↓AOps_nil, ↓AOps_cons, ↓AOps_guard, AStep_val, AStep_skip, AStep_call, AStep_pan, dstOK_some, dstOK_none, put_some, put_none, ev_tmp, ev_const, ev_func, upd_at, osome_some, osome_none, osome_ite, cb_t, cb_f, gb_unit, gb_tt, gb_ff, gb_tf, gb_ft, ↓ACnd_true, ↓ACnd_false, ↓AGd_eq, ↓AGo_true, ↓AGo_false, dstAt_list, dstAtL, decide_false, dite_eq_ite, aop, acall, acallf, acallb, otell, ores, defull, nrm, ofConst, ofV, entry, alen, aextract, aun, abin, aint, Option.map_some, Option.bind_some, List.map_cons, List.map_nil, Nat.reduceLT, Nat.reduceEqDiff, decide_true, true_and, if_true, if_false, ↓reduceIte, Bool.false_eq_true, ne_eq, not_false_eq_true, List.toList_toArray, reduceCtorEq, st0, n9k, n5k, hkl, aindex, Int.toNat_natCast, hg, Int.natCast_nonneg, b1]
        rw [bad (numBad_dig hg (by unfold isDig; rw [show Nat.ble 48 c.toNat = false from by cases hh : Nat.ble 48 c.toNat with | false => rfl | true => (have := Nat.le_of_ble_eq_true hh; omega)]; rfl))]
        exact AFin.ret_of (v := .tuple [.int .u64 0, .bool false]) (h' := h) rfl rfl ⟨rfl, rfl⟩
      · rcases Classical.em ((c.toNat : Int) > 57) with b2 | b2
        · simp only [↓awp_skip, ↓awp_region, ↓awp_draw, ↓awp_seq, ↓awp_block, ↓awp_loop, ↓awp_exit, ↓awp_scope, ↓awp_ret, ↓awp_cond, ↓then_normal, ↓then_exit, ↓then_ret, ↓then_panic, ↓inBlock_normal, ↓inBlock_ret, ↓inBlock_panic, ↓inBlock_same, inBlock_other, ↓noGoto_normal, ↓noGoto_exit, ↓noGoto_ret, ↓noGoto_panic, ↓AOps_nil, ↓AOps_cons, ↓AOps_guard, AStep_val, AStep_skip, AStep_call, AStep_pan, dstOK_some, dstOK_none, put_some, put_none, ev_tmp, ev_const, ev_func, upd_at, osome_some, osome_none, osome_ite, cb_t, cb_f, gb_unit, gb_tt, gb_ff, gb_tf, gb_ft, ↓ACnd_true, ↓ACnd_false, ↓AGd_eq, ↓AGo_true, ↓AGo_false, dstAt_list, dstAtL, decide_false, dite_eq_ite, aop, acall, acallf, acallb, otell, ores, defull, nrm, ofConst, ofV, entry, alen, aextract, aun, abin, aint, Option.map_some, Option.bind_some, List.map_cons, List.map_nil, Nat.reduceLT, Nat.reduceEqDiff, decide_true, true_and, if_true, if_false, ↓reduceIte, Bool.false_eq_true, ne_eq, not_false_eq_true, List.toList_toArray, reduceCtorEq, st0, n9k, n5k, hkl, aindex, Int.toNat_natCast, hg, Int.natCast_nonneg, b1, b2]
          rw [bad (numBad_dig hg (by unfold isDig; rw [show Nat.ble c.toNat 57 = false from by cases hh : Nat.ble c.toNat 57 with | false => rfl | true => (have := Nat.le_of_ble_eq_true hh; omega)]; simp))]
          exact AFin.ret_of (v := .tuple [.int .u64 0, .bool false]) (h' := h) rfl rfl ⟨rfl, rfl⟩
        · have hdig : isDig c = true := by
            unfold isDig
            rw [Nat.ble_eq_true_of_le (by omega), Nat.ble_eq_true_of_le (by omega)]; rfl
          have hall' : ∀ i c, i < k + 1 → s[i]? = some c → isDig c = true := fun i c' hi hc' => by
            rcases Nat.lt_succ_iff_lt_or_eq.1 hi with hi | rfl
            · exact hall i c' hi hc'
            · rw [hg] at hc'; cases hc'; exact hdig
          have hb1 := bnd k hk hall
          have hb2 := bnd (k + 1) hlt hall'
          have htk := numFrom_take s 0 k c hg
          rw [htk] at hb2
          have w1 : IntKind.u8.wrap ((c.toNat : Int) - 48) = ((c.toNat - 48 : Nat) : Int) := by rw [wrap_u8 _ (by omega) (by omega)]; omega
          have w2 : IntKind.u64.wrap ((c.toNat - 48 : Nat) : Int) = ((c.toNat - 48 : Nat) : Int) := wrap_u64 _ (by omega) (by omega)
          have w3 : IntKind.u64.wrap ((numFrom 0 (s.take k) : Int) * 10) = ((numFrom 0 (s.take k) * 10 : Nat) : Int) := by rw [wrap_u64 _ (by omega) (by omega)]; omega
          have w4 : IntKind.u64.wrap (((numFrom 0 (s.take k) * 10 : Nat) : Int) + ((c.toNat - 48 : Nat) : Int)) = ((numFrom 0 (s.take (k + 1)) : Nat) : Int) := by rw [wrap_u64 _ (by omega) (by omega), htk]; omega
          simp only [↓awp_skip, ↓awp_region, ↓awp_draw, ↓awp_seq, ↓awp_block, ↓awp_loop, ↓awp_exit, ↓awp_scope, ↓awp_ret, ↓awp_cond, ↓then_normal, ↓then_exit, ↓then_ret, ↓then_panic, ↓inBlock_normal, ↓inBlock_ret, ↓inBlock_panic, ↓inBlock_same, inBlock_other, ↓noGoto_normal, ↓noGoto_exit, ↓noGoto_ret, ↓noGoto_panic, ↓AOps_nil, ↓AOps_cons, ↓AOps_guard, AStep_val, AStep_skip, AStep_call, AStep_pan, dstOK_some, dstOK_none, put_some, put_none, ev_tmp, ev_const, ev_func, upd_at, osome_some, osome_none, osome_ite, cb_t, cb_f, gb_unit, gb_tt, gb_ff, gb_tf, gb_ft, ↓ACnd_true, ↓ACnd_false, ↓AGd_eq, ↓AGo_true, ↓AGo_false, dstAt_list, dstAtL, decide_false, dite_eq_ite, aop, acall, acallf, acallb, otell, ores, defull, nrm, ofConst, ofV, entry, alen, aextract, aun, abin, aint, Option.map_some, Option.bind_some, List.map_cons, List.map_nil, Nat.reduceLT, Nat.reduceEqDiff, decide_true, true_and, if_true, if_false, ↓reduceIte, Bool.false_eq_true, ne_eq, not_false_eq_true, List.toList_toArray, reduceCtorEq, st0, n9k, n5k, n64k, n5u, hkl, aindex, aconv, Int.toNat_natCast, hg, Int.natCast_nonneg, b1, b2, w1, w2, w3, w4, hw]
          exact ⟨st0 (k + 1), AState.le_of (le_upd rfl (le_upd rfl (le_upd rfl (le_upd rfl (le_upd rfl (le_upd rfl (le_emp _))))))), ⟨k + 1, hlt, hall', rfl⟩, by show s.length - ((k + 1 : Nat) : Int).toNat < s.length - ((k : Nat) : Int).toNat; omega⟩
    · have hkl : ((k : Int) < (s.length : Int)) = False := by simp; omega
      have hke : k = s.length := by omega
      subst hke
      have hnb := fin good hall
      have hres : (.tuple [.int .u64 (numR s least most).1, .bool (numR s least most).2] : AV) = .tuple [.int .u64 (numFrom 0 s : Nat), .bool (decide ((numFrom 0 s : Int) ≥ least) && decide ((numFrom 0 s : Int) ≤ most))] := by
        simp [numR, hnb]
      rw [hres]
      have htl : numFrom 0 (s.take s.length) = numFrom 0 s := by rw [List.take_length]
      rcases Classical.em ((numFrom 0 s : Int) ≥ least) with c1 | c1 <;> rcases Classical.em ((numFrom 0 s : Int) ≤ most) with c2 | c2 <;>
        (simp only [↓awp_skip, ↓awp_region, ↓awp_draw, ↓awp_seq, ↓awp_block, ↓awp_loop, ↓awp_exit, ↓awp_scope, ↓awp_ret, ↓awp_cond, ↓then_normal, ↓then_exit, ↓then_ret, ↓then_panic, ↓inBlock_normal, ↓inBlock_ret, ↓inBlock_panic, ↓inBlock_same, inBlock_other, ↓noGoto_normal, ↓noGoto_exit, ↓noGoto_ret, ↓noGoto_panic, ↓AOps_nil, ↓AOps_cons, ↓AOps_guard, AStep_val, AStep_skip, AStep_call, AStep_pan, dstOK_some, dstOK_none, put_some, put_none, ev_tmp, ev_const, ev_func, upd_at, osome_some, osome_none, osome_ite, cb_t, cb_f, gb_unit, gb_tt, gb_ff, gb_tf, gb_ft, ↓ACnd_true, ↓ACnd_false, ↓AGd_eq, ↓AGo_true, ↓AGo_false, dstAt_list, dstAtL, decide_false, dite_eq_ite, aop, acall, acallf, acallb, otell, ores, defull, nrm, ofConst, ofV, entry, alen, aextract, aun, abin, aint, Option.map_some, Option.bind_some, List.map_cons, List.map_nil, Nat.reduceLT, Nat.reduceEqDiff, decide_true, true_and, if_true, if_false, ↓reduceIte, Bool.false_eq_true, ne_eq, not_false_eq_true, List.toList_toArray, reduceCtorEq, st0, hkl, htl, c1, c2]
         exact AFin.ret_of (v := .tuple [.int .u64 (numFrom 0 s : Nat), .bool _]) (h' := h) rfl rfl ⟨by simp [c1, c2], rfl⟩)

end Go.Proofs.YtolacfnciaimhaaGreatDoor
