/- The law TreeNames, walked. -/
import Derived.Test.YtpnakjlionifkaaDoorAwake
import Derived.Test.YtpnakjlionifkaaDoorNamesA
set_option linter.unusedVariables false
set_option linter.unusedSimpArgs false
namespace Go.Proofs.YtpnakjlionifkaaDoor
open Go Go.RowKit

def wants (s : List UInt8) (k : Nat) (w : Bool) : Prop := w = true ↔ (1 ≤ s.length ∧ s.length ≤ 12 ∧ ∀ i c, i < k → s[i]? = some c → nameAt i c = true)
theorem wants_end {s : List UInt8} {w : Bool} (h : wants s s.length w) : w = isName s := by
  have key : isName s = true ↔ (1 ≤ s.length ∧ s.length ≤ 12 ∧ ∀ i c, i < s.length → s[i]? = some c → nameAt i c = true) := by
    simp only [isName, Bool.and_eq_true, decide_eq_true_eq, Bool.not_eq_true']
    constructor
    · rintro ⟨⟨h1, h2⟩, h3⟩
      refine ⟨?_, h2, fun i c _ e => ?_⟩
      · cases s with
        | nil => cases h1
        | cons c s => simp
      · have := allName_get s 0 h3 i c e
        rwa [Nat.zero_add] at this
    · rintro ⟨h1, h2, h3⟩
      refine ⟨⟨?_, h2⟩, allName_of s 0 fun i c e => ?_⟩
      · cases s with
        | nil => simp at h1
        | cons c s => rfl
      · rw [Nat.zero_add]
        exact h3 i c (List.getElem?_eq_some_iff.1 e).1 e
  unfold wants at h
  cases w <;> cases hn : isName s
  · rfl
  · exact absurd (h.2 (key.1 hn)) (by simp)
  · exact absurd (key.2 (h.1 rfl)) (by simp [hn])
  · rfl
theorem wants_go {s : List UInt8} {k : Nat} {w : Bool} {c : UInt8} (h : wants s k w) (hc : s[k]? = some c) (hn : nameAt k c = true) : wants s (k + 1) w := by
  unfold wants at h ⊢
  rw [h]
  constructor
  · rintro ⟨h1, h2, h3⟩
    refine ⟨h1, h2, fun i d hi hd => ?_⟩
    rcases Nat.lt_succ_iff_lt_or_eq.1 hi with hi | rfl
    · exact h3 i d hi hd
    · rw [hc] at hd; cases hd; exact hn
  · rintro ⟨h1, h2, h3⟩
    exact ⟨h1, h2, fun i d hi hd => h3 i d (by omega) hd⟩
theorem wants_no {s : List UInt8} {k : Nat} {c : UInt8} (hc : s[k]? = some c) (hn : nameAt k c = false) : wants s (k + 1) false := by
  unfold wants
  constructor
  · intro h; cases h
  · rintro ⟨_, _, h3⟩
    rw [h3 k c (by omega) hc] at hn
    cases hn

set_option maxHeartbeats 16000000 in
theorem names_call (s : List UInt8) (h : AHeap) (hs : s.length ≤ 9223372036854775807) : ACall Tryd.prog 5 [.str s] h fun r h' => r = .ret (.bool true) ∧ h' = h := by
  refine ACall.of_awp Tryd.func5 rfl Tryd.ntmps5 (by simp) rfl ?_
  have hcall : callable Tryd.prog 8 = true := by kernel_rfl
  have hcall2 : callable Tryd.prog 15 = true := by kernel_rfl
  simp only [↓awp_skip, ↓awp_region, ↓awp_draw, ↓awp_seq, ↓awp_block, ↓awp_loop, ↓awp_exit, ↓awp_scope, ↓awp_ret, ↓awp_cond, ↓then_normal, ↓then_exit, ↓then_ret, ↓then_panic, ↓inBlock_normal, ↓inBlock_ret, ↓inBlock_panic, ↓inBlock_same, inBlock_other, ↓noGoto_normal, ↓noGoto_exit, ↓noGoto_ret, ↓noGoto_panic, ↓AOps_nil, ↓AOps_cons, ↓AOps_guard, AStep_val, AStep_skip, AStep_call, AStep_pan, dstOK_some, dstOK_none, put_some, put_none, ev_tmp, ev_const, ev_func, upd_at, osome_some, osome_none, osome_ite, cb_t, cb_f, gb_unit, gb_tt, gb_ff, gb_tf, gb_ft, ↓ACnd_true, ↓ACnd_false, ↓AGd_eq, ↓AGo_true, ↓AGo_false, dstAt_list, dstAtL, decide_false, dite_eq_ite, aop, acall, acallf, acallb, otell, ores, ofConst, ofV, entry, alen, aextract, aun, abin, aint, Option.map_some, Option.bind_some, List.map_cons, List.map_nil, Nat.reduceLT, Nat.reduceEqDiff, decide_true, true_and, if_true, if_false, ↓reduceIte, Bool.false_eq_true, ne_eq, not_false_eq_true, List.toList_toArray, reduceCtorEq, t9k, hcall, List.nil_append, List.append_nil, afrzl]
  refine (awake_call h).mono ?_
  rintro r h' ⟨rfl, rfl⟩
  simp only [ACont]
  have c1 := Classical.em ((s.length : Int) > 1000)
  have c2 := Classical.em ((s.length : Int) ≥ 1)
  have c3 := Classical.em ((s.length : Int) ≤ 12)
  have loop0 : ∀ w, (w = true ↔ 1 ≤ s.length ∧ s.length ≤ 12) → wants s 0 w := fun w hw => by
    unfold wants
    rw [hw]
    exact ⟨fun ⟨a, b⟩ => ⟨a, b, fun i c hi => absurd hi (Nat.not_lt_zero _)⟩, fun ⟨a, b, _⟩ => ⟨a, b⟩⟩
  rcases c1 with c1 | c1 <;> rcases c2 with c2 | c2 <;> rcases c3 with c3 | c3 <;> first
    | (exfalso; omega)
    | (simp only [↓awp_skip, ↓awp_region, ↓awp_draw, ↓awp_seq, ↓awp_block, ↓awp_loop, ↓awp_exit, ↓awp_scope, ↓awp_ret, ↓awp_cond, ↓then_normal, ↓then_exit, ↓then_ret, ↓then_panic, ↓inBlock_normal, ↓inBlock_ret, ↓inBlock_panic, ↓inBlock_same, inBlock_other, ↓noGoto_normal, ↓noGoto_exit, ↓noGoto_ret, ↓noGoto_panic, ↓AOps_nil, ↓AOps_cons, ↓AOps_guard, AStep_val, AStep_skip, AStep_call, AStep_pan, dstOK_some, dstOK_none, put_some, put_none, ev_tmp, ev_const, ev_func, upd_at, osome_some, osome_none, osome_ite, cb_t, cb_f, gb_unit, gb_tt, gb_ff, gb_tf, gb_ft, ↓ACnd_true, ↓ACnd_false, ↓AGd_eq, ↓AGo_true, ↓AGo_false, dstAt_list, dstAtL, decide_false, dite_eq_ite, aop, acall, acallf, acallb, otell, ores, ofConst, ofV, entry, alen, aextract, aun, abin, aint, Option.map_some, Option.bind_some, List.map_cons, List.map_nil, Nat.reduceLT, Nat.reduceEqDiff, decide_true, true_and, if_true, if_false, ↓reduceIte, Bool.false_eq_true, ne_eq, not_false_eq_true, List.toList_toArray, reduceCtorEq, t9k, hcall, c1, c2, c3]
       first
         | exact AFin.ret_of (v := .bool true) (h' := h') rfl rfl ⟨rfl, rfl⟩
         | skip)
  all_goals
    obtain ⟨w0, hw0, e0⟩ : ∃ w0, wants s 0 w0 ∧ (w0 = true ∧ 1 ≤ s.length ∧ s.length ≤ 12 ∨ w0 = false ∧ ¬ (1 ≤ s.length ∧ s.length ≤ 12)) := by
      by_cases hh : 1 ≤ s.length ∧ s.length ≤ 12
      · exact ⟨true, loop0 true (by simp [hh]), .inl ⟨rfl, hh⟩⟩
      · exact ⟨false, loop0 false (by simp; omega), .inr ⟨rfl, hh⟩⟩
    refine ALoop.of (s0 := ⟨upd (upd (upd (upd emp 5 (.int .i64 ((0 : Nat) : Int))) 4 (.bool w0)) 3 (.bool true)) 0 (.str s), h', []⟩)
      (fun st => ∃ (k : Nat) (w : Bool), k ≤ s.length ∧ wants s k w ∧ st = ⟨upd (upd (upd (upd emp 5 (.int .i64 (k : Int))) 4 (.bool w)) 3 (.bool true)) 0 (.str s), h', []⟩)
      (fun st => match st.t 5 with | .int _ n => s.length - n.toNat | _ => 0)
      (AState.le_of (le_upd rfl (le_upd rfl (le_upd (by rcases e0 with ⟨rfl, _⟩ | ⟨rfl, _⟩ <;> first | rfl | (exfalso; omega)) (le_upd rfl (le_emp _)))))) ⟨0, w0, Nat.zero_le _, hw0, rfl⟩ ?_
    clear hw0 e0 w0
    rintro st ⟨k, w, hk, hw, rfl⟩
    by_cases hlt : k < s.length
    · have h1 : ((k : Int) < (s.length : Int)) = True := by simp; omega
      have hg : s[k]? = some s[k] := List.getElem?_eq_getElem hlt
      have hwr : IntKind.i64.wrap ((k : Int) + 1) = ((k + 1 : Nat) : Int) := wrap_i64 _ (by omega) (by omega)
      generalize hc : s[k] = c at hg
      have q1 := Classical.em ((c.toNat : Int) ≥ 97)
      have q2 := Classical.em ((c.toNat : Int) ≤ 122)
      have q3 : (((k : Int) == 0) = true ∧ ¬ (k : Int) > 0) ∨ (((k : Int) == 0) = false ∧ (k : Int) > 0) := by
        by_cases h0 : k = 0
        · left; subst h0; simp
        · right; refine ⟨by simp; omega, by omega⟩
      have q4 : ((c.toNat : Int) < 48 ∧ ¬ (c.toNat : Int) ≥ 48) ∨ (¬ (c.toNat : Int) < 48 ∧ (c.toNat : Int) ≥ 48) := by omega
      have q5 : ((c.toNat : Int) > 57 ∧ ¬ (c.toNat : Int) ≤ 57) ∨ (¬ (c.toNat : Int) > 57 ∧ (c.toNat : Int) ≤ 57) := by omega
      have q6 : (((c.toNat : Int) == 95) = true ∧ ((c.toNat : Int) != 95) = false) ∨ (((c.toNat : Int) == 95) = false ∧ ((c.toNat : Int) != 95) = true) := by
        cases hh : ((c.toNat : Int) == 95) <;> simp [bne, hh]
      rcases q1 with q1 | q1 <;> rcases q2 with q2 | q2 <;> rcases q3 with ⟨q3, r3⟩ | ⟨q3, r3⟩ <;> rcases q4 with ⟨q4, r4⟩ | ⟨q4, r4⟩ <;> rcases q5 with ⟨q5, r5⟩ | ⟨q5, r5⟩ <;> rcases q6 with ⟨q6, r6⟩ | ⟨q6, r6⟩ <;> first
        | (exfalso; omega)
        | (simp only [↓awp_skip, ↓awp_region, ↓awp_draw, ↓awp_seq, ↓awp_block, ↓awp_loop, ↓awp_exit, ↓awp_scope, ↓awp_ret, ↓awp_cond, ↓then_normal, ↓then_exit, ↓then_ret, ↓then_panic, ↓inBlock_normal, ↓inBlock_ret, ↓inBlock_panic, ↓inBlock_same, inBlock_other, ↓noGoto_normal, ↓noGoto_exit, ↓noGoto_ret, ↓noGoto_panic, ↓AOps_nil, ↓AOps_cons, ↓AOps_guard, AStep_val, AStep_skip, AStep_call, AStep_pan, dstOK_some, dstOK_none, put_some, put_none, ev_tmp, ev_const, ev_func, upd_at, osome_some, osome_none, osome_ite, cb_t, cb_f, gb_unit, gb_tt, gb_ff, gb_tf, gb_ft, ↓ACnd_true, ↓ACnd_false, ↓AGd_eq, ↓AGo_true, ↓AGo_false, dstAt_list, dstAtL, decide_false, dite_eq_ite, aop, acall, acallf, acallb, otell, ores, ofConst, ofV, entry, alen, aextract, aun, abin, aint, Option.map_some, Option.bind_some, List.map_cons, List.map_nil, Nat.reduceLT, Nat.reduceEqDiff, decide_true, true_and, if_true, if_false, ↓reduceIte, Bool.false_eq_true, ne_eq, not_false_eq_true, List.toList_toArray, reduceCtorEq, t9k, t5k, h1, aindex, Int.toNat_natCast, hg, Int.natCast_nonneg, q1, q2, q3, q4, q5, q6, r6, hwr, Bool.not_true, Bool.not_false]
           first
             | exact ⟨⟨upd (upd (upd (upd emp 5 (.int .i64 ((k + 1 : Nat) : Int))) 4 (.bool w)) 3 (.bool true)) 0 (.str s), h', []⟩, AState.le_of (le_upd rfl (le_upd rfl (le_upd rfl (le_upd rfl (le_emp _))))), ⟨k + 1, w, hlt, wants_go hw hg (by simp only [nameAt, q1, q2, r3, r4, r5, q6]; decide), rfl⟩, by show s.length - ((k + 1 : Nat) : Int).toNat < s.length - k; omega⟩
             | exact ⟨⟨upd (upd (upd (upd emp 5 (.int .i64 ((k + 1 : Nat) : Int))) 4 (.bool false)) 3 (.bool true)) 0 (.str s), h', []⟩, AState.le_of (le_upd rfl (le_upd rfl (le_upd rfl (le_upd rfl (le_emp _))))), ⟨k + 1, false, hlt, wants_no hg (by simp only [nameAt, q1, q2, r3, r4, r5, q6]; decide), rfl⟩, by show s.length - ((k + 1 : Nat) : Int).toNat < s.length - k; omega⟩)
    · have h1 : ((k : Int) < (s.length : Int)) = False := by simp; omega
      have hke : k = s.length := by omega
      subst hke
      have hwe := wants_end hw
      simp only [↓awp_skip, ↓awp_region, ↓awp_draw, ↓awp_seq, ↓awp_block, ↓awp_loop, ↓awp_exit, ↓awp_scope, ↓awp_ret, ↓awp_cond, ↓then_normal, ↓then_exit, ↓then_ret, ↓then_panic, ↓inBlock_normal, ↓inBlock_ret, ↓inBlock_panic, ↓inBlock_same, inBlock_other, ↓noGoto_normal, ↓noGoto_exit, ↓noGoto_ret, ↓noGoto_panic, ↓AOps_nil, ↓AOps_cons, ↓AOps_guard, AStep_val, AStep_skip, AStep_call, AStep_pan, dstOK_some, dstOK_none, put_some, put_none, ev_tmp, ev_const, ev_func, upd_at, osome_some, osome_none, osome_ite, cb_t, cb_f, gb_unit, gb_tt, gb_ff, gb_tf, gb_ft, ↓ACnd_true, ↓ACnd_false, ↓AGd_eq, ↓AGo_true, ↓AGo_false, dstAt_list, dstAtL, decide_false, dite_eq_ite, aop, acall, acallf, acallb, otell, ores, ofConst, ofV, entry, alen, aextract, aun, abin, aint, Option.map_some, Option.bind_some, List.map_cons, List.map_nil, Nat.reduceLT, Nat.reduceEqDiff, decide_true, true_and, if_true, if_false, ↓reduceIte, Bool.false_eq_true, ne_eq, not_false_eq_true, List.toList_toArray, reduceCtorEq, t9k, t5k, h1, hcall2, List.nil_append, List.append_nil, afrzl, afrz, afrz1]
      refine (name_call s h' hs).mono ?_
      rintro r h'' ⟨rfl, rfl⟩
      subst hwe
      simp only [ACont, ↓awp_skip, ↓awp_region, ↓awp_draw, ↓awp_seq, ↓awp_block, ↓awp_loop, ↓awp_exit, ↓awp_scope, ↓awp_ret, ↓awp_cond, ↓then_normal, ↓then_exit, ↓then_ret, ↓then_panic, ↓inBlock_normal, ↓inBlock_ret, ↓inBlock_panic, ↓inBlock_same, inBlock_other, ↓noGoto_normal, ↓noGoto_exit, ↓noGoto_ret, ↓noGoto_panic, ↓AOps_nil, ↓AOps_cons, ↓AOps_guard, AStep_val, AStep_skip, AStep_call, AStep_pan, dstOK_some, dstOK_none, put_some, put_none, ev_tmp, ev_const, ev_func, upd_at, osome_some, osome_none, osome_ite, cb_t, cb_f, gb_unit, gb_tt, gb_ff, gb_tf, gb_ft, ↓ACnd_true, ↓ACnd_false, ↓AGd_eq, ↓AGo_true, ↓AGo_false, dstAt_list, dstAtL, decide_false, dite_eq_ite, aop, acall, acallf, acallb, otell, ores, ofConst, ofV, entry, alen, aextract, aun, abin, aint, Option.map_some, Option.bind_some, List.map_cons, List.map_nil, Nat.reduceLT, Nat.reduceEqDiff, decide_true, true_and, if_true, if_false, ↓reduceIte, Bool.false_eq_true, ne_eq, not_false_eq_true, List.toList_toArray, reduceCtorEq, t9k, t5k, t4k, beq_self_eq_true]
      exact AFin.ret_of (v := .bool true) (h' := h'') rfl rfl ⟨rfl, rfl⟩

end Go.Proofs.YtpnakjlionifkaaDoor
