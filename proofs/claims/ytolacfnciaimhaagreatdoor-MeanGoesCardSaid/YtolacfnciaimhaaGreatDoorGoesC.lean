/- The law MeanGoes, for every input. -/
import Derived.Test.YtolacfnciaimhaaGreatDoorGoesA
import Derived.Test.YtolacfnciaimhaaGreatDoorGlue
set_option linter.unusedVariables false
namespace Go.Proofs.YtolacfnciaimhaaGreatDoor
open Go Go.RowKit

def envF (a b x : Int) : Nat → Int := fun i => if i = 100 then a else if i = 101 then b else if i = 102 then x else i
theorem envF_mono (a b x : Int) : ∀ i j, i < j → j < 100 → envF a b x i < envF a b x j := by
  intro i j hij hj
  unfold envF
  rw [if_neg (by omega), if_neg (by omega), if_neg (by omega), if_neg (by omega), if_neg (by omega), if_neg (by omega)]
  omega
theorem VRs.three {K : KW} {x y z : AV} {u v w : Value} (hx : VR K x u) (hy : VR K y v) (hz : VR K z w) : VRs K [x, y, z] #[u, v, w] := ⟨rfl, fun i a e => by
  match i, e with
  | 0, e => simp at e; subst e; exact hx
  | 1, e => simp at e; subst e; exact hy
  | 2, e => simp at e; subst e; exact hz
  | i + 3, e => simp at e⟩
theorem meanGoes_calls (x : Int) (wx : (Lit.int .u32 x).wf = true) (a : Int) (wa : (Lit.int .u32 a).wf = true) (b : Int) (wb : (Lit.int .u32 b).wf = true) : TellsTrue Tryz.prog 7 #[.int .u32 x, .int .u32 a, .int .u32 b] := by
  have bnd : ∀ n : Int, (Lit.int .u32 n).wf = true → 0 ≤ n ∧ n ≤ 4294967295 := fun n h => by
    simpa [Lit.wf, IntKind.min, IntKind.max, IntKind.signed, IntKind.bits] using h
  obtain ⟨x0, x1⟩ := bnd x wx
  obtain ⟨a0, a1⟩ := bnd a wa
  obtain ⟨b0, b1⟩ := bnd b wb
  rcases Classical.em (x = 0) with hx | hx
  · subst hx
    exact TellsTrue.of (saysTrue_ok run6_ok rfl goes_none noHeap) (envF a b 0) (envF_mono a b 0) fun W good => .three (.int _ _) (.isym _ _ _ _ a rfl a0 a1) (.isym _ _ _ _ b rfl b0 b1)
  · exact TellsTrue.of (saysTrue_ok run6_ok rfl goes_some noHeap) (envF a b x) (envF_mono a b x) fun W good => .three (.isym _ _ _ _ x rfl (by omega) x1) (.isym _ _ _ _ a rfl a0 a1) (.isym _ _ _ _ b rfl b0 b1)
/-- The table of the row stands in every world in which all that stands here stands. -/
theorem goodAt (W : World) (h : laidMet Tryz.prog Rows.meanGoesRow.laid W) : GoodAt W := by
  have ht : Lib.TabIs Tryz.prog W "internal/strconv.uint64pow10" .u64 Lib.pow10Tab := by
    obtain ⟨ps, h1, hn, hc⟩ := h
    obtain ⟨g1, t1, c1, f1, p1, q1, _, _, _, _, h2, e1⟩ := h1
    obtain ⟨g2, t2, c2, f2, p2, q2, _, _, _, _, h3, e2⟩ := h2
    refine Lib.tabIs_of_head (rest := []) (g := 1) (t := 188) (e := 161) (n := 20) (by kernel_rfl) (by kernel_rfl) (by kernel_rfl) (by kernel_rfl) (by kernel_rfl) (by kernel_rfl) ⟨q2, h3, ?_, fun b off hm => hc b off ?_⟩
    · rw [e1, e2] at hn
      exact (List.nodup_append.1 (List.nodup_append.1 hn).2.1).2.1
    · rw [e1, e2]
      exact List.mem_append_right _ (List.mem_append_right _ hm)
  intro w hw
  show Lib.TabIs Tryz.prog w "internal/strconv.uint64pow10" .u64 Lib.pow10Tab
  unfold Lib.TabIs World.var? at ht ⊢
  obtain ⟨g, hg, hv⟩ := Option.bind_eq_some_iff.1 ht
  rw [hg, Option.bind_some]
  split at hv
  · rename_i cs e fr hb
    rw [hw g _ hb]
    exact hv
  · cases hv

end Go.Proofs.YtolacfnciaimhaaGreatDoor
