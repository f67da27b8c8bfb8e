/- Three bools in a row, as the reader reads them: taken apart, and put together. -/
import Derived.Test.YtkiahdaicpikbaaDoorGlue
import Derived.Laws.IdiomArrays
set_option linter.unusedVariables false
namespace Go.Proofs.YtkiahdaicpikbaaDoor
open Go Go.ChangeShapes Go.WideShapes Go.ChangeAt Go.RowKit

section
variable {H : Type} {enc : TypeId × Value → H} {P : Program} {w : World} {base : Nat} {sp : Nat → Bool} {held : Bool}
theorem open_bool3 {r : Reach} {b0 : Nat} {t e : TypeId} {v : Value} {d : DataW H} {ps : List MemPlace} (ht : P.underlying t = some (.array 3 e)) (he : P.underlying e = some .bool) (hce : P.cellsOf e = 1) (hct : P.cellsOf t = 3)
    (hval : Value.okWide P w r b0 t v) (hd : DataW.Trod enc P w base sp held t v d ps) : ∃ a b c : Bool, v = .agg #[.bool a, .bool b, .bool c] ∧ d = .agg [.lit (.bool a), .lit (.bool b), .lit (.bool c)] ∧ ps = [] := by
  have h := hval
  simp only [Value.okWide, ht] at h
  obtain ⟨cs, rfl, h2, _⟩ := h
  rw [hct] at h2
  obtain ⟨fuel, hf⟩ := hd
  rcases cs with ⟨l⟩
  match l, h2 with
  | [c0, c1, c2], _ =>
    simp only [Value.cells] at hf
    obtain ⟨y0, y1, y2, n, hx, h0, h1, h2⟩ := trod_array3 ht hce hf
    obtain ⟨a, ea, ha⟩ := DataW.trod_bool he h0
    obtain ⟨b, eb, hb⟩ := DataW.trod_bool he h1
    obtain ⟨c, ec, hc⟩ := DataW.trod_bool he h2
    simp only [List.cons.injEq, and_true] at ea eb ec
    subst ea; subst eb; subst ec
    subst ha; subst hb; subst hc
    simp only [Prod.mk.injEq] at hx
    exact ⟨a, b, c, rfl, hx.1, by simpa using hx.2⟩
theorem shut_bool3 {t e : TypeId} (ht : P.underlying t = some (.array 3 e)) (he : P.underlying e = some .bool) (hce : P.cellsOf e = 1) (hct : P.cellsOf t = 3) (a b c : Bool) :
    DataW.Trod enc P w base sp held t (.agg #[.bool a, .bool b, .bool c]) (.agg [.lit (.bool a), .lit (.bool b), .lit (.bool c)]) [] := by
  refine ⟨2, ?_⟩
  have r3 : List.range 3 = [0, 1, 2] := rfl
  simp [DataW.trod, Value.cells, ht, he, hce, hct, r3]
end
end Go.Proofs.YtkiahdaicpikbaaDoor
