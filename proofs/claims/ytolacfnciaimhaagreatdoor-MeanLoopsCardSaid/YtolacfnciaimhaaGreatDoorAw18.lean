/- Values compared; what is known of two states at once. -/
import Derived.Test.YtolacfnciaimhaaGreatDoorAw17
set_option linter.unusedVariables false
set_option linter.unusedSimpArgs false
namespace Go.Proofs.YtolacfnciaimhaaGreatDoor
open Go Go.RowKit

mutual
/-- The same, as far as it is looked at. -/
def beqV : AV → AV → Bool
  | .undef, y => match y with | .undef => true | _ => false
  | .bool a, y => match y with | .bool b => a == b | _ => false
  | .int k n, y => match y with | .int k' n' => decide (k = k') && decide (n = n') | _ => false
  | .str a, y => match y with | .str b => decide (a = b) | _ => false
  | .nilp, y => match y with | .nilp => true | _ => false
  | .ptr l o, y => match y with | .ptr l' o' => Nat.beq l l' && Nat.beq o o' | _ => false
  | .eptr a b c d, y => match y with | .eptr a' b' c' d' => Nat.beq a a' && Nat.beq b b' && Nat.beq c c' && Nat.beq d d' | _ => false
  | .vptr r o, y => match y with | .vptr r' o' => beqs r r' && Nat.beq o o' | _ => false
  | .nils, y => match y with | .nils => true | _ => false
  | .slice sz rs, y => match y with | .slice sz' rs' => Nat.beq sz sz' && beqss rs rs' | _ => false
  | .rslice l n, y => match y with | .rslice l' n' => Nat.beq l l' && Nat.beq n n' | _ => false
  | .agg cs, y => match y with | .agg cs' => beqs cs cs' | _ => false
  | .tuple cs, y => match y with | .tuple cs' => beqs cs cs' | _ => false
  | .fn f a b, y => match y with | .fn f' a' b' => Nat.beq f f' && beqs a a' && beqs b b' | _ => false
  | .nilfn, y => match y with | .nilfn => true | _ => false
  | .iface t v, y => match y with | .iface t' v' => Nat.beq t t' && beqV v v' | _ => false
  | .nili, y => match y with | .nili => true | _ => false
  | .nilm, y => match y with | .nilm => true | _ => false
  | .map l, y => match y with | .map l' => Nat.beq l l' | _ => false
  | .isym k e lo hi, y => match y with | .isym k' e' lo' hi' => decide (k = k') && Nat.beq e e' && decide (lo = lo') && decide (hi = hi') | _ => false
  | .irng k lo hi, y => match y with | .irng k' lo' hi' => decide (k = k') && decide (lo = lo') && decide (hi = hi') | _ => false
  | .ilin e c, y => match y with | .ilin e' c' => Nat.beq e e' && Nat.beq c c' | _ => false
  | .fslice sz rs, y => match y with | .fslice sz' rs' => Nat.beq sz sz' && beqss rs rs' | _ => false
  | .ssym c e lo hi, y => match y with | .ssym c' e' lo' hi' => Nat.beq c c' && Nat.beq e e' && decide (lo = lo') && decide (hi = hi') | _ => false
def beqs : List AV → List AV → Bool
  | [], y => match y with | [] => true | _ => false
  | x :: xs, y => match y with | y :: ys => beqV x y && beqs xs ys | [] => false
def beqss : List (List AV) → List (List AV) → Bool
  | [], y => match y with | [] => true | _ => false
  | x :: xs, y => match y with | y :: ys => beqs x y && beqss xs ys | [] => false
end
mutual
theorem beqV_eq : ∀ (x y : AV), beqV x y = true → x = y
  | .undef, y, h => by cases y <;> first | rfl | (simp only [beqV] at h; cases h; done)
  | .bool a, y, h => by cases y <;> first | (simp [beqV] at h; rw [h]) | (simp only [beqV] at h; cases h; done)
  | .int k n, y, h => by cases y <;> first | (simp [beqV] at h; rw [h.1, h.2]) | (simp only [beqV] at h; cases h; done)
  | .str a, y, h => by cases y <;> first | (simp [beqV] at h; rw [h]) | (simp only [beqV] at h; cases h; done)
  | .nilp, y, h => by cases y <;> first | rfl | (simp only [beqV] at h; cases h; done)
  | .ptr l o, y, h => by cases y <;> first | (simp [beqV] at h; rw [h.1, h.2]) | (simp only [beqV] at h; cases h; done)
  | .eptr a b c d, y, h => by cases y <;> first | (simp [beqV] at h; rw [h.1.1.1, h.1.1.2, h.1.2, h.2]) | (simp only [beqV] at h; cases h; done)
  | .vptr r o, y, h => by cases y <;> first | (simp [beqV] at h; rw [beqs_eq _ _ h.1, h.2]) | (simp only [beqV] at h; cases h; done)
  | .nils, y, h => by cases y <;> first | rfl | (simp only [beqV] at h; cases h; done)
  | .slice sz rs, y, h => by cases y <;> first | (simp [beqV] at h; rw [h.1, beqss_eq _ _ h.2]) | (simp only [beqV] at h; cases h; done)
  | .rslice l n, y, h => by cases y <;> first | (simp [beqV] at h; rw [h.1, h.2]) | (simp only [beqV] at h; cases h; done)
  | .agg cs, y, h => by cases y <;> first | (simp only [beqV] at h; rw [beqs_eq _ _ h]; done) | (simp only [beqV] at h; cases h; done)
  | .tuple cs, y, h => by cases y <;> first | (simp only [beqV] at h; rw [beqs_eq _ _ h]; done) | (simp only [beqV] at h; cases h; done)
  | .fn f a b, y, h => by cases y <;> first | (simp [beqV] at h; rw [h.1.1, beqs_eq _ _ h.1.2, beqs_eq _ _ h.2]) | (simp only [beqV] at h; cases h; done)
  | .nilfn, y, h => by cases y <;> first | rfl | (simp only [beqV] at h; cases h; done)
  | .iface t v, y, h => by cases y <;> first | (simp [beqV] at h; rw [h.1, beqV_eq _ _ h.2]) | (simp only [beqV] at h; cases h; done)
  | .nili, y, h => by cases y <;> first | rfl | (simp only [beqV] at h; cases h; done)
  | .nilm, y, h => by cases y <;> first | rfl | (simp only [beqV] at h; cases h; done)
  | .map l, y, h => by cases y <;> first | (simp [beqV] at h; rw [h]) | (simp only [beqV] at h; cases h; done)
  | .isym k e lo hi, y, h => by cases y <;> first | (simp [beqV] at h; rw [h.1.1.1, h.1.1.2, h.1.2, h.2]) | (simp only [beqV] at h; cases h; done)
  | .irng k lo hi, y, h => by cases y <;> first | (simp [beqV] at h; rw [h.1.1, h.1.2, h.2]) | (simp only [beqV] at h; cases h; done)
  | .ilin e c, y, h => by cases y <;> first | (simp [beqV] at h; rw [h.1, h.2]) | (simp only [beqV] at h; cases h; done)
  | .fslice sz rs, y, h => by cases y <;> first | (simp [beqV] at h; rw [h.1, beqss_eq _ _ h.2]) | (simp only [beqV] at h; cases h; done)
  | .ssym c e lo hi, y, h => by cases y <;> first | (simp [beqV] at h; rw [h.1.1.1, h.1.1.2, h.1.2, h.2]) | (simp only [beqV] at h; cases h; done)
theorem beqs_eq : ∀ (x y : List AV), beqs x y = true → x = y
  | [], y, h => by cases y <;> first | rfl | (simp only [beqs] at h; cases h; done)
  | x :: xs, y, h => by cases y <;> first | (simp [beqs] at h; rw [beqV_eq _ _ h.1, beqs_eq _ _ h.2]) | (simp only [beqs] at h; cases h; done)
theorem beqss_eq : ∀ (x y : List (List AV)), beqss x y = true → x = y
  | [], y, h => by cases y <;> first | rfl | (simp only [beqss] at h; cases h; done)
  | x :: xs, y, h => by cases y <;> first | (simp [beqss] at h; rw [beqs_eq _ _ h.1, beqss_eq _ _ h.2]) | (simp only [beqss] at h; cases h; done)
end
def beqkv : List (List UInt8 × AV) → List (List UInt8 × AV) → Bool
  | [], y => match y with | [] => true | _ => false
  | p :: xs, y => match y with | q :: ys => decide (p.1 = q.1) && beqV p.2 q.2 && beqkv xs ys | [] => false
theorem beqkv_eq : ∀ (x y : List (List UInt8 × AV)), beqkv x y = true → x = y
  | [], y, h => by cases y <;> first | rfl | (simp only [beqkv] at h; cases h; done)
  | (k, v) :: xs, y, h => by
    cases y with
    | nil => simp only [beqkv] at h; cases h
    | cons q ys =>
      obtain ⟨k', v'⟩ := q
      simp only [beqkv, Bool.and_eq_true, decide_eq_true_eq] at h
      rw [h.1.1, beqV_eq _ _ h.1.2, beqkv_eq _ _ h.2]
def beqO : AObj → AObj → Bool
  | .cells a, y => match y with | .cells b => beqs a b | _ => false
  | .arr e sz r, y => match y with | .arr e' sz' r' => Nat.beq e e' && Nat.beq sz sz' && beqss r r' | _ => false
  | .siter s p, y => match y with | .siter s' p' => decide (s = s') && Nat.beq p p' | _ => false
  | .frz sz r, y => match y with | .frz sz' r' => Nat.beq sz sz' && beqss r r' | _ => false
  | .map es, y => match y with | .map es' => beqkv es es' | _ => false
  | .miter m s, y => match y with | .miter m' s' => Nat.beq m m' && decide (s = s') | _ => false
theorem beqO_eq (x y : AObj) (h : beqO x y = true) : x = y := by
  cases x <;> cases y <;> simp only [beqO] at h <;> try (cases h; done)
  · rw [beqs_eq _ _ h]
  · simp at h; rw [h.1.1, h.1.2, beqss_eq _ _ h.2]
  · simp at h; rw [h.1, h.2]
  · simp at h; rw [h.1, beqss_eq _ _ h.2]
  · rw [beqkv_eq _ _ h]
  · simp at h; rw [h.1, h.2]
def beqOp : Option AObj → Option AObj → Bool
  | none, y => match y with | none => true | some _ => false
  | some a, y => match y with | some b => beqO a b | none => false
theorem beqOp_eq (x y : Option AObj) (h : beqOp x y = true) : x = y := by
  cases x <;> cases y <;> simp only [beqOp] at h <;> first | rfl | (cases h; done) | rw [beqO_eq _ _ h]

/-! ### Less is known, whatever the reason -/
def AHeap.sle (h h' : AHeap) : Prop := ∀ K w, HRel K h' w → HRel K h w
def AState.sle (s s' : AState) : Prop := ∀ K n a w, SRel K n s' a w → SRel K n s a w
theorem AState.sle.refl (s : AState) : s.sle s := fun _ _ _ _ R => R
theorem AState.sle.of_le {s s' : AState} (h : s.le s') : s.sle s' := fun _ _ _ _ R => R.weaken h
theorem AHeap.sle.of_le {h h' : AHeap} (l : h.le h') : h.sle h' := fun _ _ R => R.weaken l
theorem AHeap.sle.state {t : Nat → AV} {d : List (FuncId × List AV)} {h h' : AHeap} (l : h.sle h') : AState.sle ⟨t, h, d⟩ ⟨t, h', d⟩ := fun _ _ _ _ R => ⟨l _ _ R.heap, R.size, R.tmps, R.defers⟩
theorem AWP.sweaken {P : Program} {n : Nat} {c : Code} {Q : AExit → AState → Prop} {s s' : AState} (h : AWP P n c Q s) (l : s.sle s') : AWP P n c Q s' := fun K a w R => h K a w (l _ _ _ _ R)
theorem AWP.post {P : Program} {n : Nat} {c : Code} {Q : AExit → AState → Prop} {s : AState} (h : AWP P n c (fun e s1 => ∃ s2, s2.sle s1 ∧ Q e s2) s) : AWP P n c Q s := fun K a w R =>
  wp_mono (h K a w R) fun e a' w' ⟨K', s', e', h1, h2, h3, h4, s2, h5, h6⟩ => ⟨K', s2, e', h1, h5 _ _ _ _ h2, h3, h4, h6⟩

/-- What is known of both. -/
def jt (t u : Nat → AV) : Nat → AV := fun i => if beqV (t i) (u i) then t i else .undef
def jg (g k : Nat → Option AObj) : Nat → Option AObj := fun l => if beqOp (g l) (k l) then g l else none
theorem jt_left (t u : Nat → AV) (i : Nat) : le2 (jt t u i) (t i) := by
  unfold jt
  split
  · exact le2.refl _
  · simp [le2, le1, le0]
theorem jt_right (t u : Nat → AV) (i : Nat) : le2 (jt t u i) (u i) := by
  unfold jt
  split
  · rename_i h; rw [beqV_eq _ _ h]; exact le2.refl _
  · simp [le2, le1, le0]
theorem jg_left (g k : Nat → Option AObj) (l : Nat) (x : AObj) (h : jg g k l = some x) : ∃ y, g l = some y ∧ ole x y := by
  unfold jg at h
  split at h
  · exact ⟨x, h, ole.refl x⟩
  · cases h
theorem jg_right (g k : Nat → Option AObj) (l : Nat) (x : AObj) (h : jg g k l = some x) : ∃ y, k l = some y ∧ ole x y := by
  unfold jg at h
  split at h
  · rename_i hh; rw [beqOp_eq _ _ hh] at h; exact ⟨x, h, ole.refl x⟩
  · cases h
def ejoin (s s' : AState) : Option AState := match s.d, s'.d with
  | [], [] => if Nat.beq s.h.next s'.h.next then some ⟨jt s.t s'.t, ⟨s.h.next, jg s.h.get s'.h.get⟩, []⟩ else none
  | _, _ => none
theorem ejoin_le {s s' j : AState} (h : ejoin s s' = some j) : j.le s ∧ j.le s' := by
  unfold ejoin at h
  split at h
  · rename_i h1 h2
    split at h
    · rename_i hn
      cases h
      have hn' : s.h.next = s'.h.next := Nat.eq_of_beq_eq_true hn
      exact ⟨⟨jt_left _ _, ⟨rfl, jg_left _ _⟩, h1.symm⟩, ⟨jt_right _ _, ⟨hn', jg_right _ _⟩, h2.symm⟩⟩
    · cases h
  · cases h

end Go.Proofs.YtolacfnciaimhaaGreatDoor
