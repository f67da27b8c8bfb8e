/- The law CheckLoop, for every input. -/
import Derived.Test.YtkiahdaicpikbaaDoorLoopB
import Derived.Test.YtkiahdaicpikbaaDoorGlue
set_option linter.unusedVariables false
namespace Go.Proofs.YtkiahdaicpikbaaDoor
open Go Go.RowKit

def env3 (a b c : Int) : Nat → Int := fun i => if i = 0 then a else if i = 1 then b else c + (i - 2)
theorem env3_mono {a b c : Int} (h1 : a < b) (h2 : b < c) : ∀ i j, i < j → j < 100 → env3 a b c i < env3 a b c j := by
  intro i j hij _
  unfold env3
  split <;> split <;> (try split) <;> (try split) <;> omega
theorem VRs.three {K : KW} {x y z : AV} {u v w : Value} (hx : VR K x u) (hy : VR K y v) (hz : VR K z w) : VRs K [x, y, z] #[u, v, w] := ⟨rfl, fun i a e => by
  match i, e with
  | 0, e => simp at e; subst e; exact hx
  | 1, e => simp at e; subst e; exact hy
  | 2, e => simp at e; subst e; exact hz
  | i + 3, e => simp at e⟩
theorem loop_in {f t l : Nat} (hr : loopSays (loopArgs f t l)) {a b c : Int} (h1 : a < b) (h2 : b < c) {x y z : Int} (hx : env3 a b c f = x) (hy : env3 a b c t = y) (hz : env3 a b c l = z)
    (x0 : 0 ≤ x) (x1 : x ≤ 64) (y0 : 0 ≤ y) (y1 : y ≤ 64) (z0 : 1 ≤ z) (z1 : z ≤ 16) : TellsTrue Tryd.prog 6 #[.int .i64 x, .int .i64 y, .int .i64 z] :=
  TellsTrue.of (saysTrue_ok run4_ok rfl hr noHeap) (env3 a b c) (env3_mono h1 h2) fun W => .three (.isym _ _ _ _ _ hx x0 x1) (.isym _ _ _ _ _ hy y0 y1) (.isym _ _ _ _ _ hz z0 z1)
theorem loop_out {k1 k2 k3 m1 m2 m3 : Int} (hr : loopSays [.irng .i64 k1 m1, .irng .i64 k2 m2, .irng .i64 k3 m3]) {x y z : Int} (x0 : k1 ≤ x) (x1 : x ≤ m1) (y0 : k2 ≤ y) (y1 : y ≤ m2) (z0 : k3 ≤ z) (z1 : z ≤ m3) :
    TellsTrue Tryd.prog 6 #[.int .i64 x, .int .i64 y, .int .i64 z] :=
  TellsTrue.of (saysTrue_ok run4_ok rfl hr noHeap) (fun i => i) (fun i j h _ => by omega) fun W => .three (.irng _ _ _ _ x0 x1) (.irng _ _ _ _ y0 y1) (.irng _ _ _ _ z0 z1)
theorem checkLoop_calls (x : Int) (wx : (Lit.int .i64 x).wf = true) (y : Int) (wy : (Lit.int .i64 y).wf = true) (z : Int) (wz : (Lit.int .i64 z).wf = true) : TellsTrue Tryd.prog 6 #[.int .i64 x, .int .i64 y, .int .i64 z] := by
  have bnd : ∀ n : Int, (Lit.int .i64 n).wf = true → -9223372036854775808 ≤ n ∧ n ≤ 9223372036854775807 := fun n h => by
    simpa [Lit.wf, IntKind.min, IntKind.max, IntKind.signed, IntKind.bits] using h
  obtain ⟨x0, x1⟩ := bnd x wx
  obtain ⟨y0, y1⟩ := bnd y wy
  obtain ⟨z0, z1⟩ := bnd z wz
  rcases Classical.em (x < 0) with h | hx0
  · exact loop_out loop_fl (by omega) (by omega) (by omega) (by omega) (by omega) (by omega)
  rcases Classical.em (x > 64) with h | hx1
  · exact loop_out loop_fm (by omega) (by omega) (by omega) (by omega) (by omega) (by omega)
  rcases Classical.em (y < 0) with h | hy0
  · exact loop_out loop_tl (by omega) (by omega) (by omega) (by omega) (by omega) (by omega)
  rcases Classical.em (y > 64) with h | hy1
  · exact loop_out loop_tm (by omega) (by omega) (by omega) (by omega) (by omega) (by omega)
  rcases Classical.em (z < 1) with h | hz0
  · exact loop_out loop_ll (by omega) (by omega) (by omega) (by omega) (by omega) (by omega)
  rcases Classical.em (z > 16) with h | hz1
  · exact loop_out loop_lm (by omega) (by omega) (by omega) (by omega) (by omega) (by omega)
  rcases Int.lt_trichotomy x y with h1 | h1 | h1 <;> rcases Int.lt_trichotomy y z with h2 | h2 | h2 <;> rcases Int.lt_trichotomy x z with h3 | h3 | h3
  · exact loop_in loop012 (a := x) (b := y) (c := z) (by omega) (by omega) (by simp [env3] <;> omega) (by simp [env3] <;> omega) (by simp [env3] <;> omega) (by omega) (by omega) (by omega) (by omega) (by omega) (by omega)
  · exfalso; omega
  · exfalso; omega
  · exact loop_in loop011 (a := x) (b := y) (c := (y + 1)) (by omega) (by omega) (by simp [env3] <;> omega) (by simp [env3] <;> omega) (by simp [env3] <;> omega) (by omega) (by omega) (by omega) (by omega) (by omega) (by omega)
  · exfalso; omega
  · exfalso; omega
  · exact loop_in loop021 (a := x) (b := z) (c := y) (by omega) (by omega) (by simp [env3] <;> omega) (by simp [env3] <;> omega) (by simp [env3] <;> omega) (by omega) (by omega) (by omega) (by omega) (by omega) (by omega)
  · exact loop_in loop010 (a := x) (b := y) (c := (y + 1)) (by omega) (by omega) (by simp [env3] <;> omega) (by simp [env3] <;> omega) (by simp [env3] <;> omega) (by omega) (by omega) (by omega) (by omega) (by omega) (by omega)
  · exact loop_in loop120 (a := z) (b := x) (c := y) (by omega) (by omega) (by simp [env3] <;> omega) (by simp [env3] <;> omega) (by simp [env3] <;> omega) (by omega) (by omega) (by omega) (by omega) (by omega) (by omega)
  · exact loop_in loop001 (a := x) (b := z) (c := (z + 1)) (by omega) (by omega) (by simp [env3] <;> omega) (by simp [env3] <;> omega) (by simp [env3] <;> omega) (by omega) (by omega) (by omega) (by omega) (by omega) (by omega)
  · exfalso; omega
  · exfalso; omega
  · exfalso; omega
  · exact loop_in loop000 (a := x) (b := (x + 1)) (c := ((x + 1) + 1)) (by omega) (by omega) (by simp [env3] <;> omega) (by simp [env3] <;> omega) (by simp [env3] <;> omega) (by omega) (by omega) (by omega) (by omega) (by omega) (by omega)
  · exfalso; omega
  · exfalso; omega
  · exfalso; omega
  · exact loop_in loop110 (a := z) (b := x) (c := (x + 1)) (by omega) (by omega) (by simp [env3] <;> omega) (by simp [env3] <;> omega) (by simp [env3] <;> omega) (by omega) (by omega) (by omega) (by omega) (by omega) (by omega)
  · exact loop_in loop102 (a := y) (b := x) (c := z) (by omega) (by omega) (by simp [env3] <;> omega) (by simp [env3] <;> omega) (by simp [env3] <;> omega) (by omega) (by omega) (by omega) (by omega) (by omega) (by omega)
  · exact loop_in loop101 (a := y) (b := x) (c := (x + 1)) (by omega) (by omega) (by simp [env3] <;> omega) (by simp [env3] <;> omega) (by simp [env3] <;> omega) (by omega) (by omega) (by omega) (by omega) (by omega) (by omega)
  · exact loop_in loop201 (a := y) (b := z) (c := x) (by omega) (by omega) (by simp [env3] <;> omega) (by simp [env3] <;> omega) (by simp [env3] <;> omega) (by omega) (by omega) (by omega) (by omega) (by omega) (by omega)
  · exfalso; omega
  · exfalso; omega
  · exact loop_in loop100 (a := y) (b := x) (c := (x + 1)) (by omega) (by omega) (by simp [env3] <;> omega) (by simp [env3] <;> omega) (by simp [env3] <;> omega) (by omega) (by omega) (by omega) (by omega) (by omega) (by omega)
  · exfalso; omega
  · exfalso; omega
  · exact loop_in loop210 (a := z) (b := y) (c := x) (by omega) (by omega) (by simp [env3] <;> omega) (by simp [env3] <;> omega) (by simp [env3] <;> omega) (by omega) (by omega) (by omega) (by omega) (by omega) (by omega)

end Go.Proofs.YtkiahdaicpikbaaDoor
