/- The law MeanLoops, for every input. -/
import Derived.Test.YtolacfnciaimhaaGreatDoorLoopsB
import Derived.Test.YtolacfnciaimhaaGreatDoorLoopsC
import Derived.Test.YtolacfnciaimhaaGreatDoorLoopsD
import Derived.Test.YtolacfnciaimhaaGreatDoorGlue
set_option linter.unusedVariables false
namespace Go.Proofs.YtolacfnciaimhaaGreatDoor
open Go Go.RowKit

def envL (a b n : Int) : Nat → Int := fun i => if i = 0 then a else if i = 100 then n else b + (i - 1)
theorem envL_mono {a b : Int} (n : Int) (h : a < b) : ∀ i j, i < j → j < 100 → envL a b n i < envL a b n j := by
  intro i j hij hj
  unfold envL
  rw [if_neg (show ¬ i = 100 by omega), if_neg (show ¬ j = 100 by omega), if_neg (show ¬ j = 0 by omega)]
  split <;> omega
theorem VRs.three {K : KW} {x y z : AV} {u v w : Value} (hx : VR K x u) (hy : VR K y v) (hz : VR K z w) : VRs K [x, y, z] #[u, v, w] := ⟨rfl, fun i a e => by
  match i, e with
  | 0, e => simp at e; subst e; exact hx
  | 1, e => simp at e; subst e; exact hy
  | 2, e => simp at e; subst e; exact hz
  | i + 3, e => simp at e⟩
theorem pairs0 : ∀ w ∈ [0, 1, 2, 3, 4, 5, 6, 7, 8, 9, 10, 11, 12, 13, 14, 15, 16], pairSays 0 w = true :=
  List.forall_mem_cons.2 <| And.intro loopsP0_0 <| List.forall_mem_cons.2 <| And.intro loopsP0_1 <| List.forall_mem_cons.2 <| And.intro loopsP0_2 <| List.forall_mem_cons.2 <| And.intro loopsP0_3 <| List.forall_mem_cons.2 <| And.intro loopsP0_4 <| List.forall_mem_cons.2 <| And.intro loopsP0_5 <| List.forall_mem_cons.2 <| And.intro loopsP0_6 <| List.forall_mem_cons.2 <| And.intro loopsP0_7 <| List.forall_mem_cons.2 <| And.intro loopsP0_8 <| List.forall_mem_cons.2 <| And.intro loopsP0_9 <| List.forall_mem_cons.2 <| And.intro loopsP0_10 <| List.forall_mem_cons.2 <| And.intro loopsP0_11 <| List.forall_mem_cons.2 <| And.intro loopsP0_12 <| List.forall_mem_cons.2 <| And.intro loopsP0_13 <| List.forall_mem_cons.2 <| And.intro loopsP0_14 <| List.forall_mem_cons.2 <| And.intro loopsP0_15 <| List.forall_mem_cons.2 <| And.intro loopsP0_16 <| fun _ h => nomatch h
theorem pairs1 : ∀ w ∈ [1, 2, 3, 4, 5, 6, 7, 8, 9, 10, 11, 12, 13, 14, 15, 16], pairSays 1 w = true :=
  List.forall_mem_cons.2 <| And.intro loopsP1_1 <| List.forall_mem_cons.2 <| And.intro loopsP1_2 <| List.forall_mem_cons.2 <| And.intro loopsP1_3 <| List.forall_mem_cons.2 <| And.intro loopsP1_4 <| List.forall_mem_cons.2 <| And.intro loopsP1_5 <| List.forall_mem_cons.2 <| And.intro loopsP1_6 <| List.forall_mem_cons.2 <| And.intro loopsP1_7 <| List.forall_mem_cons.2 <| And.intro loopsP1_8 <| List.forall_mem_cons.2 <| And.intro loopsP1_9 <| List.forall_mem_cons.2 <| And.intro loopsP1_10 <| List.forall_mem_cons.2 <| And.intro loopsP1_11 <| List.forall_mem_cons.2 <| And.intro loopsP1_12 <| List.forall_mem_cons.2 <| And.intro loopsP1_13 <| List.forall_mem_cons.2 <| And.intro loopsP1_14 <| List.forall_mem_cons.2 <| And.intro loopsP1_15 <| List.forall_mem_cons.2 <| And.intro loopsP1_16 <| fun _ h => nomatch h
theorem pairs2 : ∀ w ∈ [2, 3, 4, 5, 6, 7, 8, 9, 10, 11, 12, 13, 14, 15, 16], pairSays 2 w = true :=
  List.forall_mem_cons.2 <| And.intro loopsP2_2 <| List.forall_mem_cons.2 <| And.intro loopsP2_3 <| List.forall_mem_cons.2 <| And.intro loopsP2_4 <| List.forall_mem_cons.2 <| And.intro loopsP2_5 <| List.forall_mem_cons.2 <| And.intro loopsP2_6 <| List.forall_mem_cons.2 <| And.intro loopsP2_7 <| List.forall_mem_cons.2 <| And.intro loopsP2_8 <| List.forall_mem_cons.2 <| And.intro loopsP2_9 <| List.forall_mem_cons.2 <| And.intro loopsP2_10 <| List.forall_mem_cons.2 <| And.intro loopsP2_11 <| List.forall_mem_cons.2 <| And.intro loopsP2_12 <| List.forall_mem_cons.2 <| And.intro loopsP2_13 <| List.forall_mem_cons.2 <| And.intro loopsP2_14 <| List.forall_mem_cons.2 <| And.intro loopsP2_15 <| List.forall_mem_cons.2 <| And.intro loopsP2_16 <| fun _ h => nomatch h
theorem pairs3 : ∀ w ∈ [3, 4, 5, 6, 7, 8, 9, 10, 11, 12, 13, 14, 15, 16], pairSays 3 w = true :=
  List.forall_mem_cons.2 <| And.intro loopsP3_3 <| List.forall_mem_cons.2 <| And.intro loopsP3_4 <| List.forall_mem_cons.2 <| And.intro loopsP3_5 <| List.forall_mem_cons.2 <| And.intro loopsP3_6 <| List.forall_mem_cons.2 <| And.intro loopsP3_7 <| List.forall_mem_cons.2 <| And.intro loopsP3_8 <| List.forall_mem_cons.2 <| And.intro loopsP3_9 <| List.forall_mem_cons.2 <| And.intro loopsP3_10 <| List.forall_mem_cons.2 <| And.intro loopsP3_11 <| List.forall_mem_cons.2 <| And.intro loopsP3_12 <| List.forall_mem_cons.2 <| And.intro loopsP3_13 <| List.forall_mem_cons.2 <| And.intro loopsP3_14 <| List.forall_mem_cons.2 <| And.intro loopsP3_15 <| List.forall_mem_cons.2 <| And.intro loopsP3_16 <| fun _ h => nomatch h
theorem pairs4 : ∀ w ∈ [4, 5, 6, 7, 8, 9, 10, 11, 12, 13, 14, 15, 16], pairSays 4 w = true :=
  List.forall_mem_cons.2 <| And.intro loopsP4_4 <| List.forall_mem_cons.2 <| And.intro loopsP4_5 <| List.forall_mem_cons.2 <| And.intro loopsP4_6 <| List.forall_mem_cons.2 <| And.intro loopsP4_7 <| List.forall_mem_cons.2 <| And.intro loopsP4_8 <| List.forall_mem_cons.2 <| And.intro loopsP4_9 <| List.forall_mem_cons.2 <| And.intro loopsP4_10 <| List.forall_mem_cons.2 <| And.intro loopsP4_11 <| List.forall_mem_cons.2 <| And.intro loopsP4_12 <| List.forall_mem_cons.2 <| And.intro loopsP4_13 <| List.forall_mem_cons.2 <| And.intro loopsP4_14 <| List.forall_mem_cons.2 <| And.intro loopsP4_15 <| List.forall_mem_cons.2 <| And.intro loopsP4_16 <| fun _ h => nomatch h
theorem pairs5 : ∀ w ∈ [5, 6, 7, 8, 9, 10, 11, 12, 13, 14, 15, 16], pairSays 5 w = true :=
  List.forall_mem_cons.2 <| And.intro loopsP5_5 <| List.forall_mem_cons.2 <| And.intro loopsP5_6 <| List.forall_mem_cons.2 <| And.intro loopsP5_7 <| List.forall_mem_cons.2 <| And.intro loopsP5_8 <| List.forall_mem_cons.2 <| And.intro loopsP5_9 <| List.forall_mem_cons.2 <| And.intro loopsP5_10 <| List.forall_mem_cons.2 <| And.intro loopsP5_11 <| List.forall_mem_cons.2 <| And.intro loopsP5_12 <| List.forall_mem_cons.2 <| And.intro loopsP5_13 <| List.forall_mem_cons.2 <| And.intro loopsP5_14 <| List.forall_mem_cons.2 <| And.intro loopsP5_15 <| List.forall_mem_cons.2 <| And.intro loopsP5_16 <| fun _ h => nomatch h
theorem pairs6 : ∀ w ∈ [6, 7, 8, 9, 10, 11, 12, 13, 14, 15, 16], pairSays 6 w = true :=
  List.forall_mem_cons.2 <| And.intro loopsP6_6 <| List.forall_mem_cons.2 <| And.intro loopsP6_7 <| List.forall_mem_cons.2 <| And.intro loopsP6_8 <| List.forall_mem_cons.2 <| And.intro loopsP6_9 <| List.forall_mem_cons.2 <| And.intro loopsP6_10 <| List.forall_mem_cons.2 <| And.intro loopsP6_11 <| List.forall_mem_cons.2 <| And.intro loopsP6_12 <| List.forall_mem_cons.2 <| And.intro loopsP6_13 <| List.forall_mem_cons.2 <| And.intro loopsP6_14 <| List.forall_mem_cons.2 <| And.intro loopsP6_15 <| List.forall_mem_cons.2 <| And.intro loopsP6_16 <| fun _ h => nomatch h
theorem pairs7 : ∀ w ∈ [7, 8, 9, 10, 11, 12, 13, 14, 15, 16], pairSays 7 w = true :=
  List.forall_mem_cons.2 <| And.intro loopsP7_7 <| List.forall_mem_cons.2 <| And.intro loopsP7_8 <| List.forall_mem_cons.2 <| And.intro loopsP7_9 <| List.forall_mem_cons.2 <| And.intro loopsP7_10 <| List.forall_mem_cons.2 <| And.intro loopsP7_11 <| List.forall_mem_cons.2 <| And.intro loopsP7_12 <| List.forall_mem_cons.2 <| And.intro loopsP7_13 <| List.forall_mem_cons.2 <| And.intro loopsP7_14 <| List.forall_mem_cons.2 <| And.intro loopsP7_15 <| List.forall_mem_cons.2 <| And.intro loopsP7_16 <| fun _ h => nomatch h
theorem pairs8 : ∀ w ∈ [8, 9, 10, 11, 12, 13, 14, 15, 16], pairSays 8 w = true :=
  List.forall_mem_cons.2 <| And.intro loopsP8_8 <| List.forall_mem_cons.2 <| And.intro loopsP8_9 <| List.forall_mem_cons.2 <| And.intro loopsP8_10 <| List.forall_mem_cons.2 <| And.intro loopsP8_11 <| List.forall_mem_cons.2 <| And.intro loopsP8_12 <| List.forall_mem_cons.2 <| And.intro loopsP8_13 <| List.forall_mem_cons.2 <| And.intro loopsP8_14 <| List.forall_mem_cons.2 <| And.intro loopsP8_15 <| List.forall_mem_cons.2 <| And.intro loopsP8_16 <| fun _ h => nomatch h
theorem pairs9 : ∀ w ∈ [9, 10, 11, 12, 13, 14, 15, 16], pairSays 9 w = true :=
  List.forall_mem_cons.2 <| And.intro loopsP9_9 <| List.forall_mem_cons.2 <| And.intro loopsP9_10 <| List.forall_mem_cons.2 <| And.intro loopsP9_11 <| List.forall_mem_cons.2 <| And.intro loopsP9_12 <| List.forall_mem_cons.2 <| And.intro loopsP9_13 <| List.forall_mem_cons.2 <| And.intro loopsP9_14 <| List.forall_mem_cons.2 <| And.intro loopsP9_15 <| List.forall_mem_cons.2 <| And.intro loopsP9_16 <| fun _ h => nomatch h
theorem pairs10 : ∀ w ∈ [10, 11, 12, 13, 14, 15, 16], pairSays 10 w = true :=
  List.forall_mem_cons.2 <| And.intro loopsP10_10 <| List.forall_mem_cons.2 <| And.intro loopsP10_11 <| List.forall_mem_cons.2 <| And.intro loopsP10_12 <| List.forall_mem_cons.2 <| And.intro loopsP10_13 <| List.forall_mem_cons.2 <| And.intro loopsP10_14 <| List.forall_mem_cons.2 <| And.intro loopsP10_15 <| List.forall_mem_cons.2 <| And.intro loopsP10_16 <| fun _ h => nomatch h
theorem pairs11 : ∀ w ∈ [11, 12, 13, 14, 15, 16], pairSays 11 w = true :=
  List.forall_mem_cons.2 <| And.intro loopsP11_11 <| List.forall_mem_cons.2 <| And.intro loopsP11_12 <| List.forall_mem_cons.2 <| And.intro loopsP11_13 <| List.forall_mem_cons.2 <| And.intro loopsP11_14 <| List.forall_mem_cons.2 <| And.intro loopsP11_15 <| List.forall_mem_cons.2 <| And.intro loopsP11_16 <| fun _ h => nomatch h
theorem pairs12 : ∀ w ∈ [12, 13, 14, 15, 16], pairSays 12 w = true :=
  List.forall_mem_cons.2 <| And.intro loopsP12_12 <| List.forall_mem_cons.2 <| And.intro loopsP12_13 <| List.forall_mem_cons.2 <| And.intro loopsP12_14 <| List.forall_mem_cons.2 <| And.intro loopsP12_15 <| List.forall_mem_cons.2 <| And.intro loopsP12_16 <| fun _ h => nomatch h
theorem pairs13 : ∀ w ∈ [13, 14, 15, 16], pairSays 13 w = true :=
  List.forall_mem_cons.2 <| And.intro loopsP13_13 <| List.forall_mem_cons.2 <| And.intro loopsP13_14 <| List.forall_mem_cons.2 <| And.intro loopsP13_15 <| List.forall_mem_cons.2 <| And.intro loopsP13_16 <| fun _ h => nomatch h
theorem pairs14 : ∀ w ∈ [14, 15, 16], pairSays 14 w = true :=
  List.forall_mem_cons.2 <| And.intro loopsP14_14 <| List.forall_mem_cons.2 <| And.intro loopsP14_15 <| List.forall_mem_cons.2 <| And.intro loopsP14_16 <| fun _ h => nomatch h
theorem pairs15 : ∀ w ∈ [15, 16], pairSays 15 w = true :=
  List.forall_mem_cons.2 <| And.intro loopsP15_15 <| List.forall_mem_cons.2 <| And.intro loopsP15_16 <| fun _ h => nomatch h
theorem pairs16 : ∀ w ∈ [16], pairSays 16 w = true :=
  List.forall_mem_cons.2 <| And.intro loopsP16_16 <| fun _ h => nomatch h
theorem pairs_all : ∀ v w : Nat, v ≤ w → w ≤ 16 → pairSays v w = true
  | 0, w, h1, h2 => pairs0 w (by simp only [List.mem_cons]; omega)
  | 1, w, h1, h2 => pairs1 w (by simp only [List.mem_cons]; omega)
  | 2, w, h1, h2 => pairs2 w (by simp only [List.mem_cons]; omega)
  | 3, w, h1, h2 => pairs3 w (by simp only [List.mem_cons]; omega)
  | 4, w, h1, h2 => pairs4 w (by simp only [List.mem_cons]; omega)
  | 5, w, h1, h2 => pairs5 w (by simp only [List.mem_cons]; omega)
  | 6, w, h1, h2 => pairs6 w (by simp only [List.mem_cons]; omega)
  | 7, w, h1, h2 => pairs7 w (by simp only [List.mem_cons]; omega)
  | 8, w, h1, h2 => pairs8 w (by simp only [List.mem_cons]; omega)
  | 9, w, h1, h2 => pairs9 w (by simp only [List.mem_cons]; omega)
  | 10, w, h1, h2 => pairs10 w (by simp only [List.mem_cons]; omega)
  | 11, w, h1, h2 => pairs11 w (by simp only [List.mem_cons]; omega)
  | 12, w, h1, h2 => pairs12 w (by simp only [List.mem_cons]; omega)
  | 13, w, h1, h2 => pairs13 w (by simp only [List.mem_cons]; omega)
  | 14, w, h1, h2 => pairs14 w (by simp only [List.mem_cons]; omega)
  | 15, w, h1, h2 => pairs15 w (by simp only [List.mem_cons]; omega)
  | 16, w, h1, h2 => pairs16 w (by simp only [List.mem_cons]; omega)
  | v + 17, w, h1, h2 => by omega
theorem less_list : ∀ v ∈ [1, 2, 3, 4, 5, 6, 7, 8, 9, 10, 11, 12, 13, 14, 15, 16], lessSays v = true :=
  List.forall_mem_cons.2 <| And.intro loopsL1 <| List.forall_mem_cons.2 <| And.intro loopsL2 <| List.forall_mem_cons.2 <| And.intro loopsL3 <| List.forall_mem_cons.2 <| And.intro loopsL4 <| List.forall_mem_cons.2 <| And.intro loopsL5 <| List.forall_mem_cons.2 <| And.intro loopsL6 <| List.forall_mem_cons.2 <| And.intro loopsL7 <| List.forall_mem_cons.2 <| And.intro loopsL8 <| List.forall_mem_cons.2 <| And.intro loopsL9 <| List.forall_mem_cons.2 <| And.intro loopsL10 <| List.forall_mem_cons.2 <| And.intro loopsL11 <| List.forall_mem_cons.2 <| And.intro loopsL12 <| List.forall_mem_cons.2 <| And.intro loopsL13 <| List.forall_mem_cons.2 <| And.intro loopsL14 <| List.forall_mem_cons.2 <| And.intro loopsL15 <| List.forall_mem_cons.2 <| And.intro loopsL16 <| fun _ h => nomatch h
theorem less_all (v : Nat) (h1 : 1 ≤ v) (h2 : v ≤ 16) : lessSays v = true := less_list v (by simp only [List.mem_cons]; omega)
theorem meanLoops_calls (x : Int) (wx : (Lit.int .i64 x).wf = true) (y : Int) (wy : (Lit.int .i64 y).wf = true) (n : Int) (wn : (Lit.int .u32 n).wf = true) : TellsTrue Tryz.prog 5 #[.int .i64 x, .int .i64 y, .int .u32 n] := by
  obtain ⟨n0, n1⟩ : 0 ≤ n ∧ n ≤ 4294967295 := by simpa [Lit.wf, IntKind.min, IntKind.max, IntKind.signed, IntKind.bits] using wn
  have bnd : ∀ n : Int, (Lit.int .i64 n).wf = true → -9223372036854775808 ≤ n ∧ n ≤ 9223372036854775807 := fun n h => by
    simpa [Lit.wf, IntKind.min, IntKind.max, IntKind.signed, IntKind.bits] using h
  obtain ⟨x0, x1⟩ := bnd x wx
  obtain ⟨y0, y1⟩ := bnd y wy
  have out : ∀ {k1 k2 m1 m2 : Int}, saysTrue (run7 5 [.irng .i64 k1 m1, .irng .i64 k2 m2, wordN] noHeap) = true → k1 ≤ x → x ≤ m1 → k2 ≤ y → y ≤ m2 → TellsTrue Tryz.prog 5 #[.int .i64 x, .int .i64 y, .int .u32 n] := fun hr h1 h2 h3 h4 =>
    TellsTrue.of (saysTrue_ok run7_ok rfl hr noHeap) (envL 0 1 n) (envL_mono n (by omega)) fun W good => .three (.irng _ _ _ _ h1 h2) (.irng _ _ _ _ h3 h4) (.isym _ _ _ _ n rfl n0 n1)
  rcases Classical.em (x < 0) with h | hx0
  · exact out loopsOut1 (by omega) (by omega) (by omega) (by omega)
  rcases Classical.em (x > 64) with h | hx1
  · exact out loopsOut2 (by omega) (by omega) (by omega) (by omega)
  rcases Classical.em (y < 0) with h | hy0
  · exact out loopsOut3 (by omega) (by omega) (by omega) (by omega)
  rcases Classical.em (y > 16) with h | hy1
  · exact out loopsOut4 (by omega) (by omega) (by omega) (by omega)
  rcases Classical.em (x > 16) with h | hx2
  · exact TellsTrue.of (saysTrue_ok run7_ok rfl loopsWide noHeap) (envL y x n) (envL_mono n (by omega)) fun W good => .three (.isym _ _ _ _ x (by simp [envL, bareKE]) (by omega) (by omega)) (.isym _ _ _ _ y (by simp [envL, bareKE]) (by omega) (by omega)) (.isym _ _ _ _ n rfl n0 n1)
  obtain ⟨v, rfl⟩ := Int.eq_ofNat_of_zero_le (show 0 ≤ x by omega)
  obtain ⟨w, rfl⟩ := Int.eq_ofNat_of_zero_le (show 0 ≤ y by omega)
  rcases Nat.lt_trichotomy v w with h | h | h
  · have hr := pairs_all v w (by omega) (by omega)
    unfold pairSays pairArgs at hr
    simp only [if_pos (Nat.le_of_lt h), if_pos h] at hr
    exact TellsTrue.of (saysTrue_ok run7_ok rfl hr noHeap) (envL v w n) (envL_mono n (by omega)) fun W good => .three (.isym _ _ _ _ v (by simp [envL, bareKE]) (by omega) (by omega)) (.isym _ _ _ _ w (by simp [envL, bareKE]) (by omega) (by omega)) (.isym _ _ _ _ n rfl n0 n1)
  · subst h
    have hr := pairs_all v v (by omega) (by omega)
    unfold pairSays pairArgs at hr
    simp only [Nat.le_refl, if_true, Nat.lt_irrefl, if_false] at hr
    exact TellsTrue.of (saysTrue_ok run7_ok rfl hr noHeap) (envL v (v + 1) n) (envL_mono n (by omega)) fun W good => .three (.isym _ _ _ _ v (by simp [envL, bareKE]) (by omega) (by omega)) (.isym _ _ _ _ v (by simp [envL, bareKE]) (by omega) (by omega)) (.isym _ _ _ _ n rfl n0 n1)
  · have hr := less_all v (by omega) (by omega)
    exact TellsTrue.of (saysTrue_ok run7_ok rfl hr noHeap) (envL w v n) (envL_mono n (by omega)) fun W good => .three (.isym _ _ _ _ v (by simp [envL, bareKE]) (by omega) (by omega)) (.isym _ _ _ _ w (by simp [envL, bareKE]) (by omega) (by omega)) (.isym _ _ _ _ n rfl n0 n1)
/-- The table of the row stands in every world in which all that stands here stands. -/
theorem goodAt (W : World) (h : laidMet Tryz.prog Rows.meanLoopsRow.laid W) : GoodAt W := by
  have ht : Lib.TabIs Tryz.prog W "internal/strconv.uint64pow10" .u64 Lib.pow10Tab := by
    obtain ⟨ps, h1, hn, hc⟩ := h
    obtain ⟨g1, t1, c1, f1, p1, q1, _, _, _, _, h2, e1⟩ := h1
    obtain ⟨g2, t2, c2, f2, p2, q2, _, _, _, _, h3, e2⟩ := h2
    refine Lib.tabIs_of_head (rest := []) (g := 1) (t := 188) (e := 161) (n := 20) (by kernel_rfl) (by kernel_rfl) (by kernel_rfl) (by kernel_rfl) (by kernel_rfl) (by kernel_rfl) ⟨q2, h3, ?_, fun b off hm => hc b off ?_⟩
    · rw [e1, e2] at hn
      exact (List.nodup_append.1 (List.nodup_append.1 hn).2.1).2.1
    · rw [e1, e2]
      exact List.mem_append_right _ (List.mem_append_right _ hm)
  intro w hw
  show Lib.TabIs Tryz.prog w "internal/strconv.uint64pow10" .u64 Lib.pow10Tab
  unfold Lib.TabIs World.var? at ht ⊢
  obtain ⟨g, hg, hv⟩ := Option.bind_eq_some_iff.1 ht
  rw [hg, Option.bind_some]
  split at hv
  · rename_i cs e fr hb
    rw [hw g _ hb]
    exact hv
  · cases hv

end Go.Proofs.YtolacfnciaimhaaGreatDoor
