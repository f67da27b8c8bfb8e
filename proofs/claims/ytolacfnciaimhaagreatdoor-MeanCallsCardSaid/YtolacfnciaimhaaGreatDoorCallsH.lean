/- The law MeanCalls, for every input: run by the machine with what mean.Run tells. -/
import Derived.Test.YtolacfnciaimhaaGreatDoorCallsG
import Derived.Test.YtolacfnciaimhaaGreatDoorCallsS
import Derived.Test.YtolacfnciaimhaaGreatDoorAwake6
import Derived.Test.YtolacfnciaimhaaGreatDoorGlue
set_option linter.unusedVariables false
namespace Go.Proofs.YtolacfnciaimhaaGreatDoor
open Go Go.RowKit

theorem call_all (op : Nat) (h : op ∈ [1, 2, 3, 4, 5, 6, 7, 8, 9, 10]) : callTold op := by
  simp only [List.mem_cons, List.not_mem_nil, or_false] at h
  rcases h with rfl | rfl | rfl | rfl | rfl | rfl | rfl | rfl | rfl | rfl
  · exact call1
  · exact call2
  · exact call3
  · exact call4
  · exact call5
  · exact call6
  · exact call7
  · exact call8
  · exact call9
  · exact call10
theorem callg_call (op : Nat) (h : op ∈ [1, 2, 3, 4, 5, 6, 7, 8, 9, 10]) (x : Int) (b : Nat) (hp : AHeap) :
    ACall Tryz.prog 11 [callUnits op, .str [97, 46, 103], .fslice 1 [[.int .u32 x], [.int .u32 (.ofNat b)]]] hp fun r h' => r = .ret (outV (opw op x (.ofNat b))) ∧ h' = hp :=
  outOf_call run1_ok rfl rfl (by simp [outV]) (Prod.mk.inj (call_all op h x b)).1 hp
theorem callf_call (op : Nat) (h : op ∈ [1, 2, 3, 4, 5, 6, 7, 8, 9, 10]) (x : Int) (b : Nat) (hp : AHeap) :
    ACall Tryz.prog 11 [callUnits op, .str [97, 46, 102], .fslice 1 [[.int .u32 x], [.int .u32 (.ofNat b)]]] hp fun r h' => r = .ret (outV (opw op (opw op x (.ofNat b)) (.ofNat b))) ∧ h' = hp :=
  outOf_call run1_ok rfl rfl (by simp [outV]) (Prod.mk.inj (Prod.mk.inj (call_all op h x b)).2).1 hp
theorem callh_call (op : Nat) (h : op ∈ [1, 2, 3, 4, 5, 6, 7, 8, 9, 10]) (x : Int) (b : Nat) (hp : AHeap) :
    ACall Tryz.prog 11 [callUnits op, .str [98, 46, 104], .fslice 1 [[.int .u32 x], [.int .u32 (.ofNat b)]]] hp fun r h' => r = .ret (outV (opw op x (.ofNat b))) ∧ h' = hp :=
  outOf_call run1_ok rfl rfl (by simp [outV]) (Prod.mk.inj (Prod.mk.inj (call_all op h x b)).2).2 hp

noncomputable def callLib (args : List AV) : Option AV := match args with
  | [U, .str [u, 46, c], .fslice 1 [[.int .u32 x], [.int .u32 (.ofNat b)]]] => match opFind U [1, 2, 3, 4, 5, 6, 7, 8, 9, 10] with
    | some op => if Nat.beq u.toNat 97 then
        if Nat.beq c.toNat 103 then some (outV (opw op x (.ofNat b))) else if Nat.beq c.toNat 102 then some (outV (opw op (opw op x (.ofNat b)) (.ofNat b))) else none
      else if Nat.beq u.toNat 98 then if Nat.beq c.toNat 104 then some (outV (opw op x (.ofNat b))) else none else none
    | none => none
  | _ => none
theorem byte_of {c : UInt8} {n : Nat} (h : Nat.beq c.toNat n = true) : c = UInt8.ofNat n := by
  rw [← Nat.eq_of_beq_eq_true h]
  simp
theorem callLib_ok {args : List AV} {v : AV} (hx : callLib args = some v) (hp : AHeap) : ACall Tryz.prog 11 args hp fun r h' => r = .ret v ∧ h' = hp := by
  unfold callLib at hx
  split at hx
  · split at hx
    · rename_i op ho
      obtain ⟨hm, rfl⟩ := opFind_some ho
      split at hx
      · rename_i hu
        split at hx
        · rename_i hc
          cases hx
          rw [byte_of hu, byte_of hc]
          exact callg_call op hm _ _ hp
        · split at hx
          · rename_i hc
            cases hx
            rw [byte_of hu, byte_of hc]
            exact callf_call op hm _ _ hp
          · cases hx
      · split at hx
        · rename_i hu
          split at hx
          · rename_i hc
            cases hx
            rw [byte_of hu, byte_of hc]
            exact callh_call op hm _ _ hp
          · cases hx
        · cases hx
    · cases hx
  · cases hx
noncomputable def lib2 : CallF → CallF := fun call f args h =>
  if Nat.beq f 8 then match args with
    | [] => some (.ret (.bool true), h)
    | _ => none
  else if Nat.beq f 11 then match callLib args with
    | some v => some (.ret v, h)
    | none => none
  else none
theorem lib2_ok : ∀ call, CallOK Tryz.prog call → CallOK Tryz.prog (lib2 call) := by
  intro call hc f args h r h' hx
  unfold lib2 at hx
  split at hx
  · rename_i hf
    have hf' := Nat.eq_of_beq_eq_true hf
    subst hf'
    split at hx
    · cases hx
      exact awake_call _
    · cases hx
  split at hx
  · rename_i hf
    have hf' := Nat.eq_of_beq_eq_true hf
    subst hf'
    split at hx
    · rename_i v hv
      cases hx
      exact callLib_ok hv _
    · cases hx
  · cases hx
noncomputable def runD (D : Told) (f : FuncId) (args : List AV) : Option ((ARes × AHeap) × Owed) := eFunD Tryz.prog (tabOf Tryz.prog plans) lib2 300 20 D f args noHeap
theorem saysIf_call {D : Told} {f : FuncId} {args : List AV} {o : Owed} (hn : noLs args = true) (h : saysIf (runD D f args) = some o) (hp : Paid o) (h0 : AHeap) : ACall Tryz.prog f args h0 fun r h' => r = .ret (.bool true) ∧ h' = h0 := by
  unfold saysIf at h
  split at h
  · rename_i h1 o1 hx
    cases h
    have hy := eFunD_ok hx hp
    exact ACall.frame (R := fun a => a = .ret (.bool true)) hn (fun l => rfl) ((eFun_ok mixed (tabOf_ok plans_ok) lib2_ok 300 21 _ _ _ _ _ hy).mono fun a b hab => ⟨hab.1, by rw [hab.1]; rfl⟩) h0
  · cases h
def callArgs (op : Int) (a b : Nat) : List AV := [.int .u32 (.ofNat a), .int .u32 (.ofNat b), .int .i64 op]
def callOwed (op : Nat) (a b : Int) : Owed := [(opw op (opw op a b) b == opw op (opw op a b) b, true), (opw op a b == opw op a b, true)]
def callLaw (op : Nat) : Prop := ∀ a b : Nat, saysIf (runD [(132, true), (139, true)] 6 (callArgs op a b)) = some (callOwed op (.ofNat a) (.ofNat b))
theorem law1 : callLaw 1 := fun a b => by kernel_rfl
theorem law2 : callLaw 2 := fun a b => by kernel_rfl
theorem law3 : callLaw 3 := fun a b => by kernel_rfl
theorem law4 : callLaw 4 := fun a b => by kernel_rfl
theorem law5 : callLaw 5 := fun a b => by kernel_rfl
theorem law6 : callLaw 6 := fun a b => by kernel_rfl
theorem law7 : callLaw 7 := fun a b => by kernel_rfl
theorem law8 : callLaw 8 := fun a b => by kernel_rfl
theorem law9 : callLaw 9 := fun a b => by kernel_rfl
theorem law10 : callLaw 10 := fun a b => by kernel_rfl
theorem law_less (op : Int) (a b : Nat) : saysIf (runD [(29, true)] 6 (callArgs op a b)) = some [(decide (op < 1), true)] := by kernel_rfl
theorem law_more (op : Int) (a b : Nat) : saysIf (runD [(29, false), (32, true)] 6 (callArgs op a b)) = some [(decide (op < 1), false), (decide (op > 10), true)] := by kernel_rfl
theorem law_in (op : Nat) (h : op ∈ [1, 2, 3, 4, 5, 6, 7, 8, 9, 10]) : callLaw op := by
  simp only [List.mem_cons, List.not_mem_nil, or_false] at h
  rcases h with rfl | rfl | rfl | rfl | rfl | rfl | rfl | rfl | rfl | rfl
  · exact law1
  · exact law2
  · exact law3
  · exact law4
  · exact law5
  · exact law6
  · exact law7
  · exact law8
  · exact law9
  · exact law10
theorem meanCalls_calls (a : Int) (wa : (Lit.int .u32 a).wf = true) (b : Int) (wb : (Lit.int .u32 b).wf = true) (op : Int) (wo : (Lit.int .i64 op).wf = true) : TellsTrue Tryz.prog 6 #[.int .u32 a, .int .u32 b, .int .i64 op] := by
  have nat : ∀ n : Int, (Lit.int .u32 n).wf = true → ∃ m : Nat, n = .ofNat m := fun n hn => by
    simp [Lit.wf, IntKind.min, IntKind.max, IntKind.signed, IntKind.bits] at hn
    exact ⟨n.toNat, by simp only [Int.ofNat_eq_natCast]; omega⟩
  obtain ⟨a, rfl⟩ := nat a wa
  obtain ⟨b, rfl⟩ := nat b wb
  have go : ACall Tryz.prog 6 (callArgs op a b) noHeap (fun r h' => r = .ret (.bool true) ∧ h' = noHeap) → TellsTrue Tryz.prog 6 #[.int .u32 (.ofNat a), .int .u32 (.ofNat b), .int .i64 op] := fun hc =>
    TellsTrue.of hc (fun i => i) (fun i j h _ => by omega) fun W => ⟨rfl, fun i x e => by
      match i, e with
      | 0, e => simp [callArgs] at e; subst e; exact .int _ _
      | 1, e => simp [callArgs] at e; subst e; exact .int _ _
      | 2, e => simp [callArgs] at e; subst e; exact .int _ _
      | i + 3, e => simp [callArgs] at e⟩
  rcases Classical.em (op < 1) with h1 | h1
  · exact go (saysIf_call rfl (law_less op a b) (fun p hp => by simp only [List.mem_singleton] at hp; subst hp; simpa using h1) noHeap)
  · rcases Classical.em (op > 10) with h2 | h2
    · refine go (saysIf_call rfl (law_more op a b) (fun p hp => ?_) noHeap)
      simp only [List.mem_cons, List.not_mem_nil, or_false] at hp
      rcases hp with rfl | rfl
      · simpa using h1
      · simpa using h2
    · have hm : ∃ m : Nat, op = m ∧ m ∈ [1, 2, 3, 4, 5, 6, 7, 8, 9, 10] := by
        refine ⟨op.toNat, by omega, ?_⟩
        simp only [List.mem_cons, List.not_mem_nil, or_false]
        omega
      obtain ⟨m, rfl, hm⟩ := hm
      refine go (saysIf_call rfl (law_in m hm a b) (fun p hp => ?_) noHeap)
      simp only [callOwed, List.mem_cons, List.not_mem_nil, or_false] at hp
      rcases hp with rfl | rfl <;> simp

end Go.Proofs.YtolacfnciaimhaaGreatDoor
