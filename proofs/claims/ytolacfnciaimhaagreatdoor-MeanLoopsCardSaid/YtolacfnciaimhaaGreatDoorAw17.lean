/- A call that is handed no names, and tells none: it does the same whatever the heap, and leaves it alone. -/
import Derived.Test.YtolacfnciaimhaaGreatDoorAw16
set_option linter.unusedVariables false
set_option linter.unusedSimpArgs false
namespace Go.Proofs.YtolacfnciaimhaaGreatDoor
open Go Go.RowKit

theorem VR.relocate {K K' : KW} (hk : ∀ b o, K.fix b = some o → K'.fix b = some o) (he : K'.env = K.env) {x : AV} {v : Value} (h : VR K x v) (hx : noL x = true) : VR K' x v := by
  induction h with
  | undef v => exact .undef v
  | bool b => exact .bool b
  | int k n => exact .int k n
  | str s => exact .str s
  | nilp => exact .nilp
  | ptr l off b o h => cases hx
  | eptr l sz i j b o h => cases hx
  | vptr row off b o c e fr g hb hc h1 hv ih => exact .vptr row off b o c e fr g (hk _ _ hb) hc h1 fun j x hj => ih j x hj (noLs_mem (by simpa only [noL] using hx) x (List.mem_of_getElem? hj))
  | nils => exact .nils
  | slice0 sz a cap => exact .slice0 sz a cap
  | slice sz rows b o cap c e fr g hb hsz hc h1 hv hn hcap ih => exact .slice sz rows b o cap c e fr g (hk _ _ hb) hsz hc h1 (fun k x hj => ih k x hj (noLss_mem (by simpa only [noL] using hx) x (List.mem_of_getElem? hj))) hn hcap
  | rslice l n b cap h => cases hx
  | rslice0 l h => cases hx
  | agg cells cs hn h1 hv ih => exact .agg cells cs hn h1 fun j x hj => ih j x hj (noLs_mem (by simpa only [noL] using hx) x (List.mem_of_getElem? hj))
  | tuple vs cs hn hv ih => exact .tuple vs cs hn fun j x hj => ih j x hj (noLs_mem (by simpa only [noL] using hx) x (List.mem_of_getElem? hj))
  | fn f first caps fs cs hf hc h1 h2 ih1 ih2 =>
    simp only [noL, Bool.and_eq_true] at hx
    exact .fn f first caps fs cs hf hc (fun j x hj => ih1 j x hj (noLs_mem hx.1 x (List.mem_of_getElem? hj))) fun j x hj => ih2 j x hj (noLs_mem hx.2 x (List.mem_of_getElem? hj))
  | nilfn => exact .nilfn
  | iface t x v h ih => exact .iface t x v (ih (by simpa only [noL] using hx))
  | nili => exact .nili
  | nilm => exact .nilm
  | map l b o h => cases hx
  | isym k e lo hi n h h1 h2 => exact .isym k e lo hi n (by rw [he]; exact h) h1 h2
  | irng k lo hi n h1 h2 => exact .irng k lo hi n h1 h2
  | ssym c e lo hi s h h1 h2 => exact .ssym c e lo hi s (by rw [he]; exact h) (by rw [he]; exact h1) (by rw [he]; exact h2)
  | fslice sz rows a h ih => exact .fslice sz rows a (ih (by simpa only [noL] using hx))
  | ilin e c n h => exact .ilin e c n (by rw [he]; exact h)
theorem VRs.relocate {K K' : KW} (hk : ∀ b o, K.fix b = some o → K'.fix b = some o) (he : K'.env = K.env) {xs : List AV} {vs : Array Value} (h : VRs K xs vs) (hx : noLs xs = true) : VRs K' xs vs :=
  ⟨h.1, fun i x e => (h.2 i x e).relocate hk he (noLs_mem hx x (List.mem_of_getElem? e))⟩

def ARes.noL : ARes → Bool
  | .ret v => Go.Proofs.YtolacfnciaimhaaGreatDoor.noL v
  | .panic v => Go.Proofs.YtolacfnciaimhaaGreatDoor.noL v

/-- The frame. -/
theorem ACall.frame {P : Program} {f : FuncId} {args : List AV} {R : ARes → Prop} (ha : noLs args = true) {h0 : AHeap} (hg0 : ∀ l, h0.get l = none) (hc : ACall P f args h0 fun r _ => R r ∧ r.noL = true) (h : AHeap) : ACall P f args h fun r h' => R r ∧ h' = h := by
  intro K w vs H hv
  let blk : Nat → Prop := fun b => ∃ l x p, h.get l = some x ∧ x.live = true ∧ K.loc l = some (some p) ∧ p.1 = b
  have hdec : ∀ b, Decidable (blk b) := fun b => Classical.propDecidable _
  let F : KW := { fix := K.fix, frm := fun b => if blk b then w.heap[b]? else K.frm b, loc := fun _ => none, env := K.env, mono := K.mono, good := fun w' hw' => K.good w' fun b o hb => hw' b o (by
    show (if blk b then w.heap[b]? else K.frm b) = some o
    split
    · exact (H.frame b o hb).1
    · exact hb) }
  have hF : HRel F h0 w := by
    refine ⟨H.fix, fun l x e => (by rw [hg0] at e; cases e), fun l l' x x' p p' e => (by rw [hg0] at e; cases e), fun l x p e => (by rw [hg0] at e; cases e), fun l hl => rfl, fun b o hb => ?_, fun l m seen es p q e => (by rw [hg0] at e; cases e)⟩
    have hb' : (if blk b then w.heap[b]? else K.frm b) = some o := hb
    split at hb'
    · rename_i hbl
      obtain ⟨l, x, p, h1, h2, h3, rfl⟩ := hbl
      exact ⟨hb', H.nofix l x p h1 h2 h3, fun l x p e => (by rw [hg0] at e; cases e)⟩
    · obtain ⟨h1, h2, _⟩ := H.frame b o hb'
      exact ⟨h1, h2, fun l x p e => (by rw [hg0] at e; cases e)⟩
  refine (hc F w vs hF (VRs.relocate (K := K) (K' := F) (fun _ _ e => e) rfl hv ha)).mono fun e w' hpost => ?_
  obtain ⟨K', h', r, hle, H', hg, hr, hR, hnl⟩ := hpost
  have held : ∀ l x p, h.get l = some x → x.live = true → K.loc l = some (some p) → ∃ o, K'.frm p.1 = some o ∧ w.heap[p.1]? = some o := fun l x p h1 h2 h3 => by
    have hb := (H.obj l x h1).block h3
    refine ⟨w.heap[p.1], ?_, by simp [hb]⟩
    rw [hle.frm]
    show (if blk p.1 then w.heap[p.1]? else K.frm p.1) = _
    rw [if_pos ⟨l, x, p, h1, h2, h3, rfl⟩]
    simp [hb]
  have old : ∀ b o, K.frm b = some o → ∃ o', K'.frm b = some o' ∧ w.heap[b]? = some o' := fun b o hb => by
    rw [hle.frm]
    show ∃ o', (if blk b then w.heap[b]? else K.frm b) = some o' ∧ _
    have := (H.frame b o hb).1
    split
    · exact ⟨o, this, this⟩
    · exact ⟨o, hb, this⟩
  have fixle : ∀ b o, K.fix b = some o → K'.fix b = some o := fun b o e => hle.left b o e
  let K2 : KW := { fix := K'.fix, frm := K.frm, loc := K.loc, env := K.env, mono := K.mono, good := K.good }
  have hK2 : K.le K2 := ⟨fixle, fun _ _ e => e, rfl, rfl⟩
  refine ⟨K2, h, r, hK2, ?_, hg, ?_, hR, rfl⟩
  · refine ⟨H'.fix, fun l x hx => ?_, H.sep, fun l x p hx lx hp => ?_, H.fresh, fun b o hb => ?_, fun l m seen es p q e1 e2 e3 e4 => ?_⟩
    rotate_right
    · have still : ∀ l x p, h.get l = some x → x.live = true → K.loc l = some (some p) → w'.heap[p.1]? = w.heap[p.1]? := fun l x p h1 h2 h3 => by
        obtain ⟨o, g1, g2⟩ := held l x p h1 h2 h3
        rw [g2, (H'.frame _ o g1).1]
      exact (H.iter l m seen es p q e1 e2 e3 e4).keep (still l _ p e1 rfl e3) (still m _ q e2 rfl e4)
    · refine (H.obj l x hx).keep hK2 fun p hp => ?_
      cases hlv : x.live with
      | true =>
        obtain ⟨o, h1, h2⟩ := held l x p hx hlv hp
        rw [h2, (H'.frame _ o h1).1]
      | false =>
        cases x <;> simp only [AObj.live] at hlv <;> try (cases hlv; done)
        case frz sz rows =>
          obtain ⟨q, h1, h2, _⟩ := H.obj l _ hx
          rw [hp] at h1
          cases h1
          obtain ⟨o, ho, hw⟩ := h2 p rfl
          rw [hw, H'.fix _ _ (fixle _ _ ho)]
    · obtain ⟨o, h1, _⟩ := held l x p hx lx hp
      exact (H'.frame _ o h1).2.1
    · obtain ⟨o', h1, h2⟩ := old b o hb
      obtain ⟨h3, h4, h5⟩ := H.frame b o hb
      have : o' = o := by rw [h2] at h3; cases h3; rfl
      subst this
      obtain ⟨g1, g2, _⟩ := H'.frame b _ h1
      exact ⟨g1, g2, h5⟩
  · cases r with
    | ret x => cases e <;> first | exact hr.elim | exact VR.relocate (K := K') (K' := K2) (fun _ _ e => e) hle.env.symm hr hnl
    | panic x =>
      cases e <;> first | exact hr.elim | skip
      obtain ⟨v, rfl, hv⟩ := hr
      exact ⟨v, rfl, VR.relocate (K := K') (K' := K2) (fun _ _ e => e) hle.env.symm hv hnl⟩

end Go.Proofs.YtolacfnciaimhaaGreatDoor
