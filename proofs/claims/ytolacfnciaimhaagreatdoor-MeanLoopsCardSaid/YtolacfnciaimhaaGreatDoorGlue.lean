/- From the machine's contracts to the rows' statements. -/
import Derived.Test.YtolacfnciaimhaaGreatDoorAw18
import Derived.Test.YtolacfnciaimhaaGreatDoorProg
import Derived.Test.YtolacfnciaimhaaGreatDoorCards
import Derived.Test.YtolacfnciaimhaaGreatDoorTie
import Derived.WalkKit
import Derived.ProofKit
import Derived.OpenShut
import Derived.Deep.DeepHandedRow
import Derived.Lay
set_option linter.unusedVariables false
namespace Go.Proofs.YtolacfnciaimhaaGreatDoor
open Go Go.ChangeShapes Go.WideShapes Go.ChangeAt Go.RowKit

/-- In every world in which all that stands here stands. -/
def GoodAt (W : World) : Prop := ∀ w : World, (∀ (b : Nat) o, W.heap[b]? = some o → w.heap[b]? = some o) → SeatGood w
/-- Nothing is named; all that stands is another's. -/
def bareKE (W : World) (env : Nat → Int) (mono : ∀ i j, i < j → j < 100 → env i < env j) (good : GoodAt W) : KW := { fix := fun _ => none, frm := fun b => W.heap[b]?, loc := fun _ => none, env := env, mono := mono, good := good }
theorem bareKE_rel (W : World) (env : Nat → Int) (mono : ∀ i j, i < j → j < 100 → env i < env j) (good : GoodAt W) : HRel (bareKE W env mono good) noHeap W :=
  ⟨fun b o h => (by cases h), fun l x h => (by cases h), fun l l' x x' p p' h => (by cases h), fun l x p h => (by cases h), fun l _ => rfl, fun b o hb => ⟨hb, rfl, fun l x p h => (by cases h)⟩, fun l m seen es p q h => (by cases h)⟩
theorem ACall.bareE {P : Program} {f : FuncId} {args : List AV} {R : ARes → AHeap → Prop} (hc : ACall P f args noHeap R) {W : World} {vs : Array Value} {env : Nat → Int} {mono : ∀ i j, i < j → j < 100 → env i < env j} {good : GoodAt W} (hv : VRs (bareKE W env mono good) args vs) :
    Calls P f vs W fun e W' => (∃ K r h', RRel K r e ∧ R r h') ∧ (∀ b, b < W.heap.size → W'.heap[b]? = W.heap[b]?) ∧ Glob W W' := by
  refine (hc (bareKE W env mono good) W vs (bareKE_rel W env mono good) hv).mono fun e W' ⟨K', h', r, hle, H', hg, hr, hR⟩ => ⟨⟨K', r, h', hr, hR⟩, fun b hb => ?_, hg⟩
  have h1 : W.heap[b]? = some W.heap[b] := by simp [hb]
  have := (H'.frame b W.heap[b] (by rw [hle.frm]; exact h1)).1
  rw [this, h1]
/-- It tells true, and leaves all as it was. -/
def TellsTrue (P : Program) (f : FuncId) (vs : Array Value) : Prop := ∀ W, GoodAt W → Calls P f vs W fun e W' => e = .returned (.bool true) ∧ (∀ b, b < W.heap.size → W'.heap[b]? = W.heap[b]?) ∧ Glob W W'
theorem TellsTrue.of {P : Program} {f : FuncId} {args : List AV} {vs : Array Value} (hc : ACall P f args noHeap fun r h' => r = .ret (.bool true) ∧ h' = noHeap) (env : Nat → Int) (mono : ∀ i j, i < j → j < 100 → env i < env j) (hv : ∀ W good, VRs (bareKE W env mono good) args vs) : TellsTrue P f vs := fun W good => by
  refine (hc.bareE (hv W good)).mono fun e W' ⟨⟨K, r, h', hr, hR⟩, hk, hg⟩ => ?_
  obtain ⟨rfl, rfl⟩ := hR
  cases e with
  | returned v => cases hr; exact ⟨rfl, hk, hg⟩
  | panicked c => exact hr.elim
  | outgrown => exact hr.elim

section
variable {H : Type} {enc : TypeId × Value → H} {P : Program}
theorem keptBut_of {W W' : World} (hk : ∀ b, b < W.heap.size → W'.heap[b]? = W.heap[b]?) (hg : Glob W W') (may : MemPlace → Prop) : W.keptBut W' may := by
  refine ⟨hg.os, hg.output, fun i hi => ?_⟩
  rw [hk i hi]
  cases hw : W.heap[i]? with
  | none => rfl
  | some o => cases o <;> simp
theorem post_kept {f : Func} {s : ChangeSpec} {apart fresh handsOn again : Bool} {W W' : World} {args : Array Value} {v : Value} {ds gs : List (DataW H)} {before pa pv : List MemPlace}
    (hW : DataW.Whole enc P f.params.toList s.vars apart W args.toList ds gs before)
    (hres : ∀ (b : Nat) (sp : Nat → Bool) (hd : Bool), DataW.TrodAll enc P W' b sp hd f.resultTypes.toList (v.resultList f.resultTypes.size) (s.fn H (ds ++ gs)).results [])
    (hargs : ∀ sp : Nat → Bool, (∀ p ∈ before, sp p.block = true) → DataW.TrodAll enc P W' 0 sp true f.params.toList args.toList (s.fn H (ds ++ gs)).args pa)
    (hvars : ∀ sp : Nat → Bool, (∀ p ∈ before, sp p.block = true) → DataW.TrodVars enc P W' sp s.vars (s.fn H (ds ++ gs)).vars pv)
    (hps : before = pa ++ pv) (hk : ∀ b, b < W.heap.size → W'.heap[b]? = W.heap[b]?) (hg : Glob W W')
    (hok : ∀ (j : Nat) (t : TypeId) (r : Value), f.resultTypes[j]? = some t → (v.resultList f.resultTypes.size)[j]? = some r → Value.okWide P W' .any 0 t r) :
    s.post enc P f apart fresh handsOn again W args v W' := by
  have hlt := fun p hp => hW.lt p hp
  have hold : ∀ p ∈ before, (fun b => decide (b < W.heap.size)) p.block = true := fun p hp => by simpa using hW.lt p hp
  refine ⟨ds, gs, before, [], pa, pv, hW, hres _ _ _, hargs _ hold, hvars _ hold, World.keptBut_mono (fun p hp => ⟨hp, ?_⟩) (keptBut_of hk hg (· ∈ before)), fun _ => ?_⟩
  · rw [hps, List.mem_append] at hp
    exact Or.inr hp
  · obtain ⟨_, _, _, _, _, hz, hn⟩ := hW
    refine ⟨hok, _, _, ([] ++ pa) ++ pv, ⟨[] ++ pa, pv, trodAll_append (hargs _ (fun _ _ => rfl)) (hres _ _ _), hvars _ (fun _ _ => rfl), rfl, ?_, ?_⟩, ?_⟩
    · intro b off hp
      have hp' : MemPlace.cell b off ∈ before := by rw [hps]; simpa using hp
      have hb : b < W.heap.size := hlt _ hp'
      have e : W'.frozen? ⟨b, off, none⟩ = W.frozen? ⟨b, off, none⟩ := World.frozen?_of_block (w := W) (hk b hb)
      rw [e]
      exact hz b off hp'
    · intro ha
      have := hn ha
      rw [hps] at this
      simpa using this
    · intro p hp _
      rw [hps]
      simpa using hp
end

end Go.Proofs.YtolacfnciaimhaaGreatDoor
