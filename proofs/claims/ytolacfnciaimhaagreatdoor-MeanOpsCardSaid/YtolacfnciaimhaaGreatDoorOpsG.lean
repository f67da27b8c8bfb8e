/- The law MeanOps, run by the machine with what mean.Run tells. -/
import Derived.Test.YtolacfnciaimhaaGreatDoorOpsE
import Derived.Test.YtolacfnciaimhaaGreatDoorOpsF
import Derived.Test.YtolacfnciaimhaaGreatDoorAwake6
set_option linter.unusedVariables false
namespace Go.Proofs.YtolacfnciaimhaaGreatDoor
open Go Go.RowKit

theorem ops_all (op : Nat) (h : op ∈ [1, 2, 3, 4, 5, 6, 7, 8, 9, 10]) : opsTold op := by
  simp only [List.mem_cons, List.not_mem_nil, or_false] at h
  rcases h with rfl | rfl | rfl | rfl | rfl | rfl | rfl | rfl | rfl | rfl
  · exact ops1
  · exact ops2
  · exact ops3
  · exact ops4
  · exact ops5
  · exact ops6
  · exact ops7
  · exact ops8
  · exact ops9
  · exact ops10
theorem out_call {f : FuncId} {args : List AV} {v : AV} (hn : noLs args = true) (hv : noL v = true) (hu : v ≠ .undef) (h : outOf (run f args noHeap) = v) (hp : AHeap) : ACall Tryz.prog f args hp fun r h' => r = .ret v ∧ h' = hp := by
  unfold outOf at h
  split at h
  · rename_i v' h1 hx
    subst h
    exact ACall.frame (R := fun a => a = .ret v') hn (fun l => rfl) ((run_ok _ _ _ _ _ hx).mono fun a b hab => ⟨hab.1, by rw [hab.1]; exact hv⟩) hp
  · exact absurd h.symm hu
theorem opsf_call (op : Nat) (h : op ∈ [1, 2, 3, 4, 5, 6, 7, 8, 9, 10]) (a b : Nat) (hp : AHeap) :
    ACall Tryz.prog 11 [opsUnits op, .str [97, 46, 102], .slice 1 [[.int .u32 (.ofNat a)], [.int .u32 (.ofNat b)]]] hp fun r h' => r = .ret (outV (opw op (.ofNat a) (.ofNat b))) ∧ h' = hp :=
  out_call rfl rfl (by simp [outV]) (Prod.mk.inj (ops_all op h a b)).1 hp
theorem opsg_call (op : Nat) (h : op ∈ [1, 2, 3, 4, 5, 6, 7, 8, 9, 10]) (a b : Nat) (hp : AHeap) :
    ACall Tryz.prog 11 [opsUnits op, .str [97, 46, 103], .slice 1 [[.int .u32 (.ofNat a)], [.int .u32 (.ofNat b)]]] hp fun r h' => r = .ret (outV (selv (.ofNat a) (.ofNat b))) ∧ h' = hp :=
  out_call rfl rfl (by simp [outV]) (Prod.mk.inj (ops_all op h a b)).2 hp

def opFind (U : AV) : List Nat → Option Nat
  | [] => none
  | op :: rest => if beqV U (opsUnits op) then some op else opFind U rest
theorem opFind_some {U : AV} : ∀ {l : List Nat} {op : Nat}, opFind U l = some op → op ∈ l ∧ U = opsUnits op
  | [], _, h => by cases h
  | k :: rest, op, h => by
    simp only [opFind] at h
    split at h
    · rename_i hb
      cases h
      exact ⟨by simp, beqV_eq _ _ hb⟩
    · obtain ⟨h1, h2⟩ := opFind_some h
      exact ⟨by simp [h1], h2⟩
noncomputable def opsLib (args : List AV) : Option AV := match args with
  | [U, .str [97, 46, c], .slice 1 [[.int .u32 (.ofNat a)], [.int .u32 (.ofNat b)]]] => match opFind U [1, 2, 3, 4, 5, 6, 7, 8, 9, 10] with
    | some op => if Nat.beq c.toNat 102 then some (outV (opw op (.ofNat a) (.ofNat b))) else if Nat.beq c.toNat 103 then some (outV (selv (.ofNat a) (.ofNat b))) else none
    | none => none
  | _ => none
theorem byte_of {c : UInt8} {n : Nat} (h : Nat.beq c.toNat n = true) : c = UInt8.ofNat n := by
  rw [← Nat.eq_of_beq_eq_true h]
  simp
theorem opsLib_ok {args : List AV} {v : AV} (hx : opsLib args = some v) (hp : AHeap) : ACall Tryz.prog 11 args hp fun r h' => r = .ret v ∧ h' = hp := by
  unfold opsLib at hx
  split at hx
  · split at hx
    · rename_i op ho
      obtain ⟨hm, rfl⟩ := opFind_some ho
      split at hx
      · rename_i hc
        cases hx
        rw [byte_of hc]
        exact opsf_call op hm _ _ hp
      · split at hx
        · rename_i hc
          cases hx
          rw [byte_of hc]
          exact opsg_call op hm _ _ hp
        · cases hx
    · cases hx
  · cases hx
noncomputable def lib2 : CallF → CallF := fun call f args h =>
  if Nat.beq f 8 then match args with
    | [] => some (.ret (.bool true), h)
    | _ => none
  else if Nat.beq f 11 then match opsLib args with
    | some v => some (.ret v, h)
    | none => none
  else lib call f args h
theorem lib2_ok : ∀ call, CallOK Tryz.prog call → CallOK Tryz.prog (lib2 call) := by
  intro call hc f args h r h' hx
  unfold lib2 at hx
  split at hx
  · rename_i hf
    have hf' := Nat.eq_of_beq_eq_true hf
    subst hf'
    split at hx
    · cases hx
      exact awake_call _
    · cases hx
  split at hx
  · rename_i hf
    have hf' := Nat.eq_of_beq_eq_true hf
    subst hf'
    split at hx
    · rename_i v hv
      cases hx
      exact opsLib_ok hv _
    · cases hx
  · exact lib_ok call hc f args h r h' hx
/-- Without the functions that the rules speak of. -/
noncomputable def tab2 : FuncId → Option FInfo := fun f => if Nat.beq f 8 || Nat.beq f 11 then none else tabOf Tryz.prog plans f
theorem tab2_ok : TabOK Tryz.prog tab2 := by
  intro f fi h
  unfold tab2 at h
  split at h
  · cases h
  · exact tabOf_ok plans_ok f fi h
noncomputable def runD (D : Told) (f : FuncId) (args : List AV) : Option ((ARes × AHeap) × Owed) := eFunD Tryz.prog tab2 lib2 300 20 D f args noHeap
theorem saysIf_call {D : Told} {f : FuncId} {args : List AV} {o : Owed} (hn : noLs args = true) (h : saysIf (runD D f args) = some o) (hp : Paid o) (h0 : AHeap) : ACall Tryz.prog f args h0 fun r h' => r = .ret (.bool true) ∧ h' = h0 := by
  unfold saysIf at h
  split at h
  · rename_i h1 o1 hx
    cases h
    have hy := eFunD_ok hx hp
    exact ACall.frame (R := fun a => a = .ret (.bool true)) hn (fun l => rfl) ((eFun_ok mixed tab2_ok lib2_ok 300 21 _ _ _ _ _ hy).mono fun a b hab => ⟨hab.1, by rw [hab.1]; rfl⟩) h0
  · cases h

def opsArgs (op : Int) (a b : Nat) : List AV := [.int .i64 op, .int .u32 (.ofNat a), .int .u32 (.ofNat b)]
def opsD (u v z : Bool) : Told := [(75, u), (78, v), (110, z), (127, true), (133, true)]
def opsWant (op : Nat) (u v : Bool) (a b : Int) : Int := match op with
  | 9 => if u then 1 else 0
  | 10 => if v then 1 else 0
  | op => opw op a b
def opsOwed (op : Nat) (u v z : Bool) (a b : Int) : Owed := [(decide (a < b), u), (a == b, v), (a == 0, z), (opw op a b == opsWant op u v a b, true), (selv a b == (if z then 77 else b), true)]
def opsLaw (op : Nat) (u v z : Bool) : Prop := ∀ a b : Nat, saysIf (runD (opsD u v z) 4 (opsArgs op a b)) = some (opsOwed op u v z (.ofNat a) (.ofNat b))

end Go.Proofs.YtolacfnciaimhaaGreatDoor
