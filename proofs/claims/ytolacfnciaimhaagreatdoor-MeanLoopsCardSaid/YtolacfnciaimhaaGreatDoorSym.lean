/- A function of a number that is not known, from its runs at each number. -/
import Derived.Test.YtolacfnciaimhaaGreatDoorEv4
set_option linter.unusedVariables false
namespace Go.Proofs.YtolacfnciaimhaaGreatDoor
open Go Go.RowKit

def outOf : CR → AV
  | some (.ret v, _) => v
  | _ => .undef
theorem outOf_call {P : Program} {call : CallF} (hc : CallOK P call) {f : FuncId} {args : List AV} {v : AV} (hn : noLs args = true) (hv : noL v = true) (hu : v ≠ .undef) (h : outOf (call f args noHeap) = v) (hp : AHeap) : ACall P f args hp fun r h' => r = .ret v ∧ h' = hp := by
  unfold outOf at h
  split at h
  · rename_i v' h1 hx
    subst h
    exact ACall.frame (R := fun a => a = .ret v') hn (fun l => rfl) ((hc _ _ _ _ _ hx).mono fun a b hab => ⟨hab.1, by rw [hab.1]; exact hv⟩) hp
  · exact absurd h.symm hu
theorem sym_fun {P : Program} {call : CallF} (hc : CallOK P call) {f : FuncId} {sargs : List AV} {sres : AV} {e : Nat} {lo hi : Int} {args : Int → List AV} {res : Int → AV}
    (hrun : ∀ n, lo ≤ n → n ≤ hi → outOf (call f (args n) noHeap) = res n) (hu : ∀ n, res n ≠ .undef) (hn : ∀ n, noLs (args n) = true) (hv : ∀ n, noL (res n) = true)
    (hargs : ∀ K vs, VRs K sargs vs → ∃ n, K.env e = n ∧ lo ≤ n ∧ n ≤ hi ∧ VRs K (args n) vs)
    (hres : ∀ K v n, K.env e = n → lo ≤ n → n ≤ hi → VR K (res n) v → VR K sres v) (h : AHeap) : ACall P f sargs h fun r h' => r = .ret sres ∧ h' = h := by
  intro K w vs H hvs
  obtain ⟨n, h1, h2, h3, h4⟩ := hargs K vs hvs
  refine (outOf_call hc (hn n) (hv n) (hu n) (hrun n h2 h3) h K w vs H h4).mono fun x w' ⟨K', h', r, hle, H', hg, hr, hR⟩ => ?_
  obtain ⟨rfl, rfl⟩ := hR
  refine ⟨K', h', .ret sres, hle, H', hg, ?_, rfl, rfl⟩
  cases x with
  | returned v => exact hres K' v n (by rw [hle.env]; exact h1) h2 h3 hr
  | panicked c => exact hr.elim
  | outgrown => exact hr.elim
/-- A text of digits, or a sign. -/
theorem VR.ssym_of {K : KW} {c e : Nat} {lo hi n : Int} {v : Value} (he : K.env e = n) (h1 : lo ≤ n) (h2 : n ≤ hi) (h : VR K (.str (symTxt c n)) v) : VR K (.ssym c e lo hi) v := by
  generalize hq : symTxt c n = q at h
  generalize hs : AV.str q = x at h
  cases h <;> cases hs
  rename_i b
  exact .ssym c e lo hi b (by rw [he, hq]) (by omega) (by omega)
theorem VR.isym_of {K : KW} {k : IntKind} {e : Nat} {lo hi n : Int} {v : Value} (he : K.env e = n) (h1 : lo ≤ n) (h2 : n ≤ hi) (h : VR K (.int k n) v) : VR K (.isym k e lo hi) v := by
  cases h
  exact .isym k e lo hi n he h1 h2
theorem VR.pair_of {K : KW} {x x' y : AV} {v : Value} (h : VR K (.tuple [x, y]) v) (hx : ∀ u, VR K x u → VR K x' u) : VR K (.tuple [x', y]) v := by
  cases h with
  | tuple _ cs hn hv =>
    refine .tuple _ cs hn fun i z e => ?_
    match i, e with
    | 0, e => simp at e; subst e; exact hx _ (hv 0 x rfl)
    | i + 1, e => exact hv (i + 1) z (by simpa using e)
theorem VRs.first_of {K : KW} {x x' : AV} {xs : List AV} {vs : Array Value} (h : VRs K (x :: xs) vs) (hx : ∀ u, VR K x u → VR K x' u) : VRs K (x' :: xs) vs := by
  refine ⟨by simpa using h.1, fun i z e => ?_⟩
  match i, e with
  | 0, e => simp at e; subst e; exact hx _ (h.2 0 x rfl)
  | i + 1, e => exact h.2 (i + 1) z (by simpa using e)
theorem VRs.head {K : KW} {x : AV} {xs : List AV} {vs : Array Value} (h : VRs K (x :: xs) vs) : VR K x (vs.getD 0 undef) := h.2 0 x rfl
theorem isym_read {K : KW} {k : IntKind} {e : Nat} {lo hi : Int} {v : Value} (h : VR K (.isym k e lo hi) v) : ∃ n, K.env e = n ∧ lo ≤ n ∧ n ≤ hi ∧ v = .int k n := by
  cases h with
  | isym _ _ _ _ n h h1 h2 => exact ⟨n, h, h1, h2, rfl⟩
theorem ssym_read {K : KW} {c e : Nat} {lo hi : Int} {v : Value} (h : VR K (.ssym c e lo hi) v) : ∃ n, K.env e = n ∧ lo ≤ n ∧ n ≤ hi ∧ VR K (.str (symTxt c n)) v := by
  cases h with
  | ssym _ _ _ _ s h h1 h2 => exact ⟨_, rfl, h1, h2, by rw [← h]; exact .str s⟩

end Go.Proofs.YtolacfnciaimhaaGreatDoor
