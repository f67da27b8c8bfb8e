/- What the library's functions do that the machine does not walk (two contracts laid off the shelf's templates), and the machine of this program. -/
import Derived.Test.YtolacfnciaimhaaGreatDoorTab
import Derived.Test.YtolacfnciaimhaaGreatDoorEv5
import Derived.Test.YtolacfnciaimhaaGreatDoorSym
import Derived.Lib.Strings
import Derived.Lib.Slices
import Derived.Lib.Walk
import Derived.Lib.Bytealg
set_option linter.unusedVariables false
set_option linter.unusedSimpArgs false
namespace Go.Proofs.YtolacfnciaimhaaGreatDoor
open Go Go.RowKit

set_option maxHeartbeats 1000000 in
set_option maxRecDepth 100000 in
theorem stringslite_IndexByte (s : ByteArray) (c : Int) (w : World) :
    Calls Tryz.prog 90 #[.string s, .int .u8 c] w fun e w' => e = .returned (.int .i64 (Lib.indexByte s.data.toList c.toNat.toUInt8)) ∧ w' = w := by
  go_enter Tryz.func90, Tryz.ntmps90
  go_wp2
  rw [run_callFunc_extern Tryz.func102 (by kernel_rfl) (by kernel_rfl) (by kernel_rfl) (e := Extern.BytealgIndexByte.indexByte) (by kernel_rfl), Lib.run_indexByteString]
  simp only [Result.andThen]
  rw [Oper.upon_value]
  go_wp2
  go_ret
  exact ⟨rfl, rfl⟩
theorem indexByte_call (s : List UInt8) (c : Int) (h : AHeap) : ACall Tryz.prog 90 [.str s, .int .u8 c] h fun r h' => r = .ret (.int .i64 (Lib.indexByte s c.toNat.toUInt8)) ∧ h' = h := by
  intro K w vs H hv
  obtain ⟨u, v, rfl, h1, h2⟩ := VRs.two hv
  generalize hx : AV.str s = x at h1
  cases h1 <;> cases hx
  rename_i b
  cases h2
  refine (stringslite_IndexByte b c w).mono fun e w' he => ?_
  obtain ⟨rfl, rfl⟩ := he
  exact ⟨K, h, .ret (.int .i64 (Lib.indexByte b.data.toList c.toNat.toUInt8)), KW.le_refl K, H, Glob.refl _, .int _ _, rfl, rfl⟩
theorem one_call (b : Bool) (h : AHeap) : ACall Tryz.prog 58 [.bool b] h fun r h' => r = .ret (.int .u32 (if b then 1 else 0)) ∧ h' = h := by
  refine ACall.of_awp Tryz.func58 rfl Tryz.ntmps58 (by simp) rfl ?_
  cases b <;> (simp only [↓awp_skip, ↓awp_region, ↓awp_draw, ↓awp_seq, ↓awp_block, ↓awp_loop, ↓awp_exit, ↓awp_scope, ↓awp_ret, ↓awp_cond, ↓then_normal, ↓then_exit, ↓then_ret, ↓then_panic, ↓inBlock_normal, ↓inBlock_ret, ↓inBlock_panic, ↓inBlock_same, inBlock_other, ↓noGoto_normal, ↓noGoto_exit, ↓noGoto_ret, ↓noGoto_panic, ↓AOps_nil, ↓AOps_cons, ↓AOps_guard, AStep_val, AStep_skip, AStep_call, AStep_pan, dstOK_some, dstOK_none, put_some, put_none, ev_tmp, ev_const, ev_func, upd_at, osome_some, osome_none, osome_ite, cb_t, cb_f, gb_unit, gb_tt, gb_ff, gb_tf, gb_ft, ↓ACnd_true, ↓ACnd_false, ↓AGd_eq, ↓AGo_true, ↓AGo_false, dstAt_list, dstAtL, decide_false, dite_eq_ite, aop, acall, acallf, acallb, otell, ores, defull, nrm, ofConst, ofV, entry, alen, aextract, aun, abin, aint, Option.map_some, Option.bind_some, List.map_cons, List.map_nil, Nat.reduceLT, Nat.reduceEqDiff, decide_true, true_and, if_true, if_false, ↓reduceIte, Bool.false_eq_true, ne_eq, not_false_eq_true, List.toList_toArray, reduceCtorEq]; exact AFin.ret_of rfl rfl ⟨rfl, rfl⟩)
theorem sel_call (c a b : Int) (h : AHeap) : ACall Tryz.prog 41 [.int .u32 c, .int .u32 a, .int .u32 b] h fun r h' => r = .ret (.int .u32 (if c = 0 then b else a)) ∧ h' = h := by
  refine ACall.of_awp Tryz.func41 rfl Tryz.ntmps41 (by simp) rfl ?_
  rcases Classical.em (c = 0) with hc | hc
  · have hb : (c != 0) = false := by simp [hc]
    simp only [↓awp_skip, ↓awp_region, ↓awp_draw, ↓awp_seq, ↓awp_block, ↓awp_loop, ↓awp_exit, ↓awp_scope, ↓awp_ret, ↓awp_cond, ↓then_normal, ↓then_exit, ↓then_ret, ↓then_panic, ↓inBlock_normal, ↓inBlock_ret, ↓inBlock_panic, ↓inBlock_same, inBlock_other, ↓noGoto_normal, ↓noGoto_exit, ↓noGoto_ret, ↓noGoto_panic, ↓AOps_nil, ↓AOps_cons, ↓AOps_guard, AStep_val, AStep_skip, AStep_call, AStep_pan, dstOK_some, dstOK_none, put_some, put_none, ev_tmp, ev_const, ev_func, upd_at, osome_some, osome_none, osome_ite, cb_t, cb_f, gb_unit, gb_tt, gb_ff, gb_tf, gb_ft, ↓ACnd_true, ↓ACnd_false, ↓AGd_eq, ↓AGo_true, ↓AGo_false, dstAt_list, dstAtL, decide_false, dite_eq_ite, aop, acall, acallf, acallb, otell, ores, defull, nrm, ofConst, ofV, entry, alen, aextract, aun, abin, aint, Option.map_some, Option.bind_some, List.map_cons, List.map_nil, Nat.reduceLT, Nat.reduceEqDiff, decide_true, true_and, if_true, if_false, ↓reduceIte, Bool.false_eq_true, ne_eq, not_false_eq_true, List.toList_toArray, reduceCtorEq, hb]
    exact AFin.ret_of (v := .int .u32 b) (h' := h) rfl rfl ⟨by simp [hc], rfl⟩
  · have hb : (c != 0) = true := by simp [hc]
    simp only [↓awp_skip, ↓awp_region, ↓awp_draw, ↓awp_seq, ↓awp_block, ↓awp_loop, ↓awp_exit, ↓awp_scope, ↓awp_ret, ↓awp_cond, ↓then_normal, ↓then_exit, ↓then_ret, ↓then_panic, ↓inBlock_normal, ↓inBlock_ret, ↓inBlock_panic, ↓inBlock_same, inBlock_other, ↓noGoto_normal, ↓noGoto_exit, ↓noGoto_ret, ↓noGoto_panic, ↓AOps_nil, ↓AOps_cons, ↓AOps_guard, AStep_val, AStep_skip, AStep_call, AStep_pan, dstOK_some, dstOK_none, put_some, put_none, ev_tmp, ev_const, ev_func, upd_at, osome_some, osome_none, osome_ite, cb_t, cb_f, gb_unit, gb_tt, gb_ff, gb_tf, gb_ft, ↓ACnd_true, ↓ACnd_false, ↓AGd_eq, ↓AGo_true, ↓AGo_false, dstAt_list, dstAtL, decide_false, dite_eq_ite, aop, acall, acallf, acallb, otell, ores, defull, nrm, ofConst, ofV, entry, alen, aextract, aun, abin, aint, Option.map_some, Option.bind_some, List.map_cons, List.map_nil, Nat.reduceLT, Nat.reduceEqDiff, decide_true, true_and, if_true, if_false, ↓reduceIte, Bool.false_eq_true, ne_eq, not_false_eq_true, List.toList_toArray, reduceCtorEq, hb]
    exact AFin.ret_of (v := .int .u32 a) (h' := h) rfl rfl ⟨by simp [hc], rfl⟩

noncomputable def lib : CallF → CallF := fun call f args h =>
  if Nat.beq f 90 then match args with
    | [.str s, .int .u8 c] => some (.ret (.int .i64 (Lib.indexByte s c.toNat.toUInt8)), h)
    | _ => none
  else if Nat.beq f 58 then match args with
    | [.bool b] => some (.ret (.int .u32 (if b then 1 else 0)), h)
    | _ => none
  else if Nat.beq f 41 then match args with
    | [.int .u32 c, .int .u32 a, .int .u32 b] => some (.ret (.int .u32 (if c = 0 then b else a)), h)
    | _ => none
  else if Nat.beq f 18 then eFunK Tryz.prog (tabOf Tryz.prog plans) 300 call f args h
  else none
theorem lib_ok : ∀ call, CallOK Tryz.prog call → CallOK Tryz.prog (lib call) := by
  intro call hc f args h r h' hx
  unfold lib at hx
  split at hx
  · rename_i hf
    have hf' := Nat.eq_of_beq_eq_true hf
    subst hf'
    split at hx
    · cases hx
      exact indexByte_call _ _ _
    · cases hx
  split at hx
  · rename_i hf
    have hf' := Nat.eq_of_beq_eq_true hf
    subst hf'
    split at hx
    · cases hx
      exact one_call _ _
    · cases hx
  split at hx
  · rename_i hf
    have hf' := Nat.eq_of_beq_eq_true hf
    subst hf'
    split at hx
    · cases hx
      exact sel_call _ _ _ _
    · cases hx
  split at hx
  · exact eFunK_ok mixed (tabOf_ok plans_ok) 300 hc f args h r h' hx
  · cases hx

noncomputable def run : CallF := eFun Tryz.prog (tabOf Tryz.prog plans) lib 300 60
theorem run_ok : CallOK Tryz.prog run := eFun_ok mixed (tabOf_ok plans_ok) lib_ok 300 60

/-- Told true, whatever the heap. -/
def saysTrue : CR → Bool
  | some (.ret (.bool true), _) => true
  | _ => false
theorem saysTrue_ok {P : Program} {call : CallF} (hc : CallOK P call) {f : FuncId} {args : List AV} (hn : noLs args = true) (h : saysTrue (call f args noHeap) = true) (hp : AHeap) : ACall P f args hp fun r h' => r = .ret (.bool true) ∧ h' = hp := by
  unfold saysTrue at h
  split at h
  · rename_i h1 hx
    exact ACall.frame (R := fun a => a = .ret (.bool true)) hn (fun l => rfl) ((hc _ _ _ _ _ hx).mono fun a b hab => ⟨hab.1, by rw [hab.1]; rfl⟩) hp
  · cases h

end Go.Proofs.YtolacfnciaimhaaGreatDoor
