/- One operation, whichever it is: a function on abstract values, and that the model's operation does the same. -/
import Derived.Test.YtolacfnciaimhaaGreatDoorAwM
set_option linter.unusedVariables false
set_option linter.unusedSimpArgs false
namespace Go.Proofs.YtolacfnciaimhaaGreatDoor
open Go Go.RowKit

inductive AOut where
  | val (v : AV) (h : AHeap)
  | skip (h : AHeap)
  | call (f : FuncId) (args : List AV) (h : AHeap)
  | dfr (f : FuncId) (args : List AV) (h : AHeap)
  | pan (v : AV) (h : AHeap)
  | recov
  | pick (opts : List (AV × AHeap))

/-- A function that may be entered. -/
def callable (P : Program) (f : FuncId) : Bool := match P.funcs[f]? with
  | some fn => !(fn.name == "runtime.NumGoroutine") && fn.body.isSome
  | none => false

def ores (o : Option (AV × AHeap)) : Option AOut := o.map fun p => .val p.1 p.2
def otell (h : AHeap) (o : Option AV) : Option AOut := o.map fun x => .val x h
def opick (o : Option (List (AV × AHeap))) : Option AOut := match o with
  | some [q] => some (.val q.1 q.2)
  | some l => some (.pick l)
  | none => none
/-- How many entries a map has. -/
def alenM (h : AHeap) (x : AV) : Option AV := match x with
  | .map l => match h.get l with
    | some (.map es) => some (.int .i64 es.length)
    | _ => none
  | _ => none

def zipParts (ps : List (Nat × Operand)) (xs : List AV) : List (Nat × AV) := (ps.map (·.1)).zip xs

/-- A call: of a function, or of a built-in one. -/
def acallf (P : Program) (h : AHeap) (f : AV) (args : List AV) : Option AOut := match f with
  | .fn g first caps => if callable P g then (afrzl h (first ++ args ++ caps)).map fun q => .call g q.1 q.2 else none
  | _ => none
def acallb (P : Program) (h : AHeap) (b : Builtin) (args : List AV) (ts : List TypeId) : Option AOut := match b, args, ts with
  | .append, [s, x], [t, t'] => if t' = t then ores (aappend P (atrim (atrim h x) s) t s (defull x)) else none
  | .len, [x], [t] => match x, tmap P t with
    | .map l, some _ => otell h (alenM h (.map l))
    | x, _ => otell h (alen P t (defull x))
  | .delete, [x, k], t :: _ => (adelete P h t x k).map fun h' => .val (.tuple []) h'
  | .min, [x, y], _ => otell h (amin2 x y)
  | .max, [x, y], _ => otell h (amax2 x y)
  | .panic, [.iface t v], _ => some (.pan (.iface t v) h)
  | .recover, [], _ => some .recov
  | _, _, _ => none
def acall (P : Program) (h : AHeap) (ev : Operand → AV) (c : Call) : Option AOut := match c.callee with
  | .value f => acallf P h (ev f) (c.args.toList.map ev)
  | .builtin b => acallb P h b (c.args.toList.map ev) c.argTypes.toList
  | .invoke _ _ => none

/-- The abstract operation. In 'call' what is handed on never changes any more. -/
def aop (P : Program) (h : AHeap) (ev : Operand → AV) : Op → Option AOut
  | .move x => some (.val (ev x) h)
  | .assign x => some (.val (ev x) h)
  | .pick c a b => match ev c with
    | .bool t => some (.val (if t then ev a else ev b) h)
    | _ => none
  | .alloc t => ores (aalloc P h t)
  | .box _ x => ores (abox h (ev x))
  | .build t ps => otell h (abuild P t (zipParts ps.toList (ps.toList.map fun p => ev p.2)))
  | .buildSlice t n ps => (afrzl h (ps.toList.map fun p => ev p.2)).bind fun q => ores (abuildF P q.2 t n (zipParts ps.toList q.1))
  | .load t a => otell h (aload P h t (ev a))
  | .store t a x => (astore P h t (ev a) (ev x)).map .skip
  | .nilCheck x => match ev x with
    | .ptr l off => some (.val (.ptr l off) h)
    | .vptr r off => some (.val (.vptr r off) h)
    | .eptr l sz i j => some (.val (.eptr l sz i j) h)
    | .fn f a b => some (.val (.fn f a b) h)
    | _ => none
  | .binOp op t x y _ => otell h (abin P op t (ev x) (ev y))
  | .unOp op _ x => otell h (aun op (ev x))
  | .convert s d x => otell h (aconv P s d (ev x))
  | .makeInterface t x => (afrz h (ev x)).bind fun q => otell q.2 (amkIface P t q.1)
  | .makeFunc fn a b => match fn with
    | .func f => some (.val (.fn f (a.toList.map ev) (b.toList.map ev)) h)
    | _ => none
  | .slice t x lo hi mx => match mx with
    | none => ores (aslice P h t (defull (ev x)) (lo.map fun o => nrm (ev o)) (hi.map fun o => nrm (ev o)))
    | some _ => none
  | .fieldAddr s x k => otell h (afieldAddr P s (ev x) k)
  | .field s x k => otell h (afield P s (ev x) k)
  | .indexAddr t x i => otell h (aindexAddr P h t (defull (ev x)) (nrm (ev i)))
  | .index t x i => otell h (aindex P t (defull (ev x)) (nrm (ev i)))
  | .range t x => match ev x with
    | .map l => ores (arangeM P h t (.map l))
    | x => ores (arange P h t x)
  | .next x is => match is with
    | true => ores (anext h (ev x) true)
    | false => opick (anextM h (ev x))
  | .entry x => otell h (aentry h (ev x))
  | .makeSlice t l c => match l with
    | .const _ => ores (amakeF P h t (nrm (ev l)) (nrm (ev c)))
    | _ => ores (amakeSlice P h t (nrm (ev l)) (nrm (ev c)))
  | .makeMap _ r => match r with
    | none => some (.val (amakeMap h).1 (amakeMap h).2)
    | some _ => none
  | .lookup t x k ok => otell h (alookup P h t (ev x) (ev k) ok)
  | .mapUpdate t m k x => (amapUpdate P h t (ev m) (ev k) (ev x)).map .skip
  | .insert t m k x => (amapUpdate P h t (ev m) (ev k) (ev x)).map .skip
  | .typeAssert x _ t ok => otell h (aassert P (ev x) t ok)
  | .extract x i => otell h (aextract (ev x) i)
  | .call c => acall P h ev c
  | .defer c => match c.callee with
    | .value f => (match ev f with
      | .fn g first caps => if callable P g then some (.dfr g (first ++ c.args.toList.map ev ++ caps) h) else none
      | _ => none)
    | _ => none
  | .panic x => match ev x with
    | .iface t v => some (.pan (.iface t v) h)
    | _ => none
  | _ => none

/-- How it is right. -/
def OutR (P : Program) (K : KW) (w : World) (r : Result Next) : AOut → Prop
  | .val x h' => ∃ K' w' v, K.le K' ∧ r = .ok (.value v) w' ∧ HRel K' h' w' ∧ VR K' x v ∧ Glob w w'
  | .skip h' => ∃ K' w', K.le K' ∧ r = .ok .skip w' ∧ HRel K' h' w' ∧ Glob w w'
  | .call f args h' => ∃ K' vs, K.le K' ∧ r = .ok (.enter f vs) w ∧ HRel K' h' w ∧ VRs K' args vs
  | .dfr f args h' => ∃ (d : Deferred) (cap : Array Value), r = .ok (.defer d) w ∧ HRel K h' w ∧ d.target = .fn (.func f) cap ∧ VRs K args (d.args ++ cap)
  | .pan x h' => ∃ v, r = .halt (.panic v) w ∧ HRel K h' w ∧ VR K x v
  | .recov => r = .ok .recover w
  | .pick opts => ∃ q ∈ opts, ∃ K' w' v, K.le K' ∧ r = .ok (.value v) w' ∧ HRel K' q.2 w' ∧ VR K' q.1 v ∧ Glob w w'

theorem OutR.gives {P : Program} {K : KW} {w : World} {s : Sem Value} {x : AV} {h' : AHeap} (g : Gives P s K w x h') : OutR P K w ((do pure (.value (← s)) : Sem Next).run P w) (.val x h') := by
  obtain ⟨K', w', v, hle, hr, H, hv, hg⟩ := g
  exact ⟨K', w', v, hle, by simp only [Sem.run_bind, hr, Result.andThen_ok, Sem.run_pure], H, hv, hg⟩
theorem OutR.ores {P : Program} {K : KW} {w : World} {s : Sem Value} {o : Option (AV × AHeap)} {out : AOut} (h : ores o = some out) (g : ∀ x h', o = some (x, h') → Gives P s K w x h') : OutR P K w ((do pure (.value (← s)) : Sem Next).run P w) out := by
  obtain ⟨⟨x, h'⟩, ho, rfl⟩ := Option.map_eq_some_iff.1 h
  exact .gives (g x h' ho)
theorem OutR.otell {P : Program} {K : KW} {w : World} {s : Sem Value} {o : Option AV} {h : AHeap} {out : AOut} (H : HRel K h w) (ho : otell h o = some out) (g : ∀ x, o = some x → Tells P s K w x) : OutR P K w ((do pure (.value (← s)) : Sem Next).run P w) out := by
  obtain ⟨x, hx, rfl⟩ := Option.map_eq_some_iff.1 ho
  exact .gives ((g x hx).gives H)
theorem OutR.mono {P : Program} {K K' : KW} {w : World} {r : Result Next} {x : AV} {h : AHeap} (hk : K.le K') (hr : OutR P K' w r (.val x h)) : OutR P K w r (.val x h) := by
  obtain ⟨K2, w', v, hle, hh⟩ := hr
  exact ⟨K2, w', v, KW.le_trans hk hle, hh⟩
theorem ores_val {o : Option (AV × AHeap)} {out : AOut} (h : ores o = some out) : ∃ x h', out = .val x h' := by
  obtain ⟨⟨x, h'⟩, _, rfl⟩ := Option.map_eq_some_iff.1 h
  exact ⟨_, _, rfl⟩
theorem otell_val {o : Option AV} {h : AHeap} {out : AOut} (h : otell h o = some out) : ∃ x h', out = .val x h' := by
  obtain ⟨x, _, rfl⟩ := Option.map_eq_some_iff.1 h
  exact ⟨_, _, rfl⟩

theorem VRs.map {K : KW} {ev : Operand → AV} {ρ : Operand → Value} (hρ : ∀ x, VR K (ev x) (ρ x)) (xs : Array Operand) : VRs K (xs.toList.map ev) (xs.map ρ) := by
  refine ⟨by simp, fun i x e => ?_⟩
  simp only [List.getElem?_map, Option.map_eq_some_iff, Array.getElem?_toList] at e
  obtain ⟨o, ho, rfl⟩ := e
  rw [Array.getD_eq_getD_getElem?, Array.getElem?_map, ho]
  exact hρ o
theorem parts_rel {K : KW} {ρ : Operand → Value} {ps : Array (Nat × Operand)} {ys : List AV} (h : VRs K ys (ps.map fun p => ρ p.2)) : PartsRel K (zipParts ps.toList ys) (ps.map fun (i, x) => (i, ρ x)) := by
  have hn : ys.length = ps.size := by have := h.1; simpa using this.symm
  refine ⟨?_, fun i p q ep eq => ?_⟩
  · simp only [zipParts, Array.toList_map, List.map_map]
    rw [List.map_fst_zip (by simp [hn])]
    rfl
  · simp only [zipParts] at ep
    rw [List.getElem?_zip_eq_some] at ep
    simp only [Array.toList_map, List.getElem?_map, Option.map_eq_some_iff] at eq
    obtain ⟨a, ha, rfl⟩ := eq
    have := h.2 i p.2 ep.2
    rw [Array.getD_eq_getD_getElem?, Array.getElem?_map, ← Array.getElem?_toList, ha] at this
    exact this

theorem callable_run {P : Program} {w : World} {g : FuncId} {vs : Array Value} (hc : callable P g = true) : (callFunc g vs).run P w = .ok (.enter g vs) w := by
  unfold callable at hc
  split at hc
  · rename_i fn hf
    simp only [Bool.and_eq_true, Bool.not_eq_true', Option.isSome_iff_exists] at hc
    obtain ⟨hn, b, hb⟩ := hc
    simp only [callFunc, Sem.run_bind, run_program, Result.andThen_ok, hf, hn, Bool.false_eq_true, if_false, hb, Option.isNone_some, Sem.run_pure]
  · cases hc
theorem fn_form {K : KW} {g : FuncId} {first caps : List AV} {u : Value} (h : VR K (.fn g first caps) u) : ∃ fs cs, u = .func (.func g) fs cs ∧ VRs K first fs ∧ VRs K caps cs := by
  cases h with
  | fn _ _ _ fs cs hf hc h1 h2 => exact ⟨fs, cs, rfl, ⟨hf, h1⟩, ⟨hc, h2⟩⟩
theorem VRs.two {K : KW} {x y : AV} {vs : Array Value} (h : VRs K [x, y] vs) : ∃ u v, vs = #[u, v] ∧ VR K x u ∧ VR K y v := by
  obtain ⟨hn, hv⟩ := h
  rcases vs with ⟨l⟩
  match l, hn with
  | [u, v], _ => exact ⟨u, v, rfl, by simpa using hv 0 x rfl, by simpa using hv 1 y rfl⟩
theorem VRs.one {K : KW} {x : AV} {vs : Array Value} (h : VRs K [x] vs) : ∃ u, vs = #[u] ∧ VR K x u := by
  obtain ⟨hn, hv⟩ := h
  rcases vs with ⟨l⟩
  match l, hn with
  | [u], _ => exact ⟨u, rfl, by simpa using hv 0 x rfl⟩
theorem alenM_run {P : Program} {K : KW} {h : AHeap} {w : World} (H : HRel K h w) {t ty : TypeId} {q : TypeId × TypeId} {x y : AV} {v : Value} (hq : tmap P t = some q) (hv : VR K x v) (hx : alenM h x = some y) : Tells P (Builtin.len_ #[t] ty #[v]) K w y := by
  unfold alenM at hx
  split at hx
  case h_2 => cases hx
  rename_i l
  split at hx
  case h_2 => cases hx
  rename_i es hl
  cases hx
  obtain ⟨b', o, ents, clock, h1, h2, h3⟩ := H.obj l _ hl
  cases hv with
  | map _ b2 o2 hloc =>
    rw [h1] at hloc
    simp only [Option.some.injEq, Prod.mk.injEq] at hloc
    obtain ⟨rfl, rfl⟩ := hloc
    obtain ⟨_, _, _, es', hp, hl', _⟩ := h3
    have : es.length = ents.size := by rw [← hl', hp.length_eq]
    refine ⟨goInt ents.size, ?_, ?_⟩
    · simp [Builtin.len_, run_underlying (tmap_run hq), Go.MapKept.run_getObj_map h2]
    · rw [this]; exact .int _ _
theorem opick_run {P : Program} {K : KW} {w : World} {s : Sem Value} {o : Option (List (AV × AHeap))} {out : AOut} (h : opick o = some out) (g : ∀ opts, o = some opts → ∃ q ∈ opts, Gives P s K w q.1 q.2) : OutR P K w ((do pure (.value (← s)) : Sem Next).run P w) out := by
  unfold opick at h
  split at h
  · rename_i q
    cases h
    obtain ⟨q', hq, hg⟩ := g _ rfl
    rw [List.mem_singleton] at hq
    subst hq
    exact .gives hg
  · rename_i l _
    cases h
    obtain ⟨q, hq, hg⟩ := g _ rfl
    exact ⟨q, hq, OutR.gives hg⟩
  · cases h
theorem acall_run {P : Program} {K : KW} {h : AHeap} {w : World} (H : HRel K h w) {ev : Operand → AV} {ρ : Operand → Value} (hρ : ∀ x, VR K (ev x) (ρ x)) (c : Call) (ty : TypeId) {out : AOut} (hx : acall P h ev c = some out) :
    OutR P K w ((do let d ← resolve ρ c ty; invoke d.target d.args : Sem Next).run P w) out := by
  obtain ⟨callee, args, ts⟩ := c
  have ha : VRs K (args.toList.map ev) (args.map ρ) := VRs.map hρ args
  cases callee <;> simp only [acall] at hx
  case value f =>
    unfold acallf at hx
    split at hx
    case h_2 => cases hx
    rename_i g first caps he
    split at hx
    case isFalse => cases hx
    rename_i hcall
    obtain ⟨⟨ys, h'⟩, hy, rfl⟩ := Option.map_eq_some_iff.1 hx
    have hf := hρ f
    rw [he] at hf
    obtain ⟨fs, cs, hu, h1, h2⟩ := fn_form hf
    obtain ⟨K', hle, H', hv⟩ := afrzl_vrs H ((h1.append ha).append h2) hy
    refine ⟨K', fs ++ args.map ρ ++ cs, hle, ?_, H', hv⟩
    simp only [resolve, Sem.run_bind, hu, Deferred.ofValue, Sem.run_pure, Result.andThen_ok, invoke, callable_run hcall]
  case builtin b =>
    have hrun : ∀ s : Sem Value, (∀ cs, builtin b ts ty cs (args.map ρ) = (do pure (.value (← s)))) → (do let d ← resolve ρ ⟨.builtin b, args, ts⟩ ty; invoke d.target d.args : Sem Next).run P w = (do pure (.value (← s)) : Sem Next).run P w := by
      intro s hs
      have e : (do let d ← resolve ρ ⟨.builtin b, args, ts⟩ ty; invoke d.target d.args : Sem Next).run P w = (builtin b ts ty (args.map fun | .const _ => true | _ => false) (args.map ρ)).run P w := rfl
      rw [e, hs]
    generalize hal : args.toList.map ev = al at hx ha
    generalize htl : ts.toList = tl at hx
    unfold acallb at hx
    split at hx
    · rename_i s x t t'
      split at hx
      case isFalse => cases hx
      rename_i htt
      subst htt
      obtain ⟨u, v, hvs, h1, h2⟩ := VRs.two ha
      have hts : ts = #[t', t'] := by rw [← Array.toArray_toList (xs := ts), htl]
      rw [hrun (Builtin.append_ ts ty (args.map ρ)) (fun _ => rfl), hvs, hts]
      exact .ores hx fun y h' e => aappend_run ((H.trim _).trim _) h1 h2.defull e
    · rename_i x t
      obtain ⟨u, hvs, h1⟩ := VRs.one ha
      have hts : ts = #[t] := by rw [← Array.toArray_toList (xs := ts), htl]
      rw [hrun (Builtin.len_ ts ty (args.map ρ)) (fun _ => rfl), hvs, hts]
      split at hx
      · rename_i hq
        exact .otell H hx fun y e => alenM_run H hq h1 e
      · exact .otell H hx fun y e => alen_run h1.defull e
    · rename_i x k t _
      obtain ⟨u, v, hvs, h1, h2⟩ := VRs.two ha
      have hts : ts[0]? = some t := by rw [← Array.toArray_toList (xs := ts), htl]; rfl
      rw [hrun (Builtin.delete_ ts ty (args.map ρ)) (fun _ => rfl), hvs]
      obtain ⟨h', hd, rfl⟩ := Option.map_eq_some_iff.1 hx
      obtain ⟨w', hr, H', hg⟩ := adelete_run (ty := ty) H h1 h2 hd ts hts
      exact .gives ⟨K, w', _, KW.le_refl K, hr, H', .unit K, hg⟩
    · rename_i x y
      obtain ⟨u, v, hvs, h1, h2⟩ := VRs.two ha
      rw [hrun (Builtin.min_ ts ty (args.map ρ)) (fun _ => rfl), hvs]
      exact .otell H hx fun y e => amin2_run h1 h2 e
    · rename_i x y
      obtain ⟨u, v, hvs, h1, h2⟩ := VRs.two ha
      rw [hrun (Builtin.max_ ts ty (args.map ρ)) (fun _ => rfl), hvs]
      exact .otell H hx fun y e => amax2_run h1 h2 e
    · rename_i t v
      cases hx
      obtain ⟨u, hvs, h1⟩ := VRs.one ha
      rw [hrun (Instr.panic ((args.map ρ).getD 0 .nilIface)) (fun _ => rfl), hvs]
      cases h1 with
      | iface _ _ u' hu' => exact ⟨_, by simp [Instr.panic], H, .iface t v u' hu'⟩
    · cases hx
      simp only [OutR, resolve, Sem.run_bind, Sem.run_pure, Result.andThen_ok, invoke, builtin]
    · cases hx
  case invoke r m => cases hx

theorem aop_run {P : Program} {K : KW} {h : AHeap} {w : World} (H : HRel K h w) {ev : Operand → AV} {ρ : Operand → Value} (hρ : ∀ x, VR K (ev x) (ρ x)) (o : Oper) {out : AOut} (hx : aop P h ev o.op = some out) :
    OutR P K w ((execOp ρ o).run P w) out := by
  obtain ⟨dst, op, ty, pos, after, guard⟩ := o
  simp only at hx
  cases op <;> simp only [aop] at hx <;> try contradiction
  case move x => cases hx; exact ⟨K, w, _, KW.le_refl K, rfl, H, hρ x, Glob.refl w⟩
  case assign x => cases hx; exact ⟨K, w, _, KW.le_refl K, rfl, H, hρ x, Glob.refl w⟩
  case pick c a b =>
    split at hx
    case h_2 => cases hx
    rename_i t hc
    cases hx
    have := hρ c
    rw [hc] at this
    have hc' : ρ c = .bool t := by
      generalize ρ c = u at this
      cases this; rfl
    refine ⟨K, w, if t then ρ a else ρ b, KW.le_refl K, ?_, H, ?_, Glob.refl w⟩
    · simp [execOp, hc', asBool]
    · cases t
      · exact hρ b
      · exact hρ a
  case alloc t => exact .ores hx fun x h' e => aalloc_run H e
  case box t x => exact .ores hx fun y h' e => abox_run H (hρ x) e
  case build t ps =>
    have hm : VRs K (ps.toList.map fun p => ev p.2) (ps.map fun p => ρ p.2) := by
      have := VRs.map hρ (ps.map (·.2))
      simpa [Function.comp_def] using this
    exact .otell H hx fun y e => abuild_run (parts_rel hm) e
  case buildSlice t n ps =>
    obtain ⟨⟨ys, h1⟩, hy, hx⟩ := Option.bind_eq_some_iff.1 hx
    have hm : VRs K (ps.toList.map fun p => ev p.2) (ps.map fun p => ρ p.2) := by
      have := VRs.map hρ (ps.map (·.2))
      simpa [Function.comp_def] using this
    obtain ⟨K', hle, H', hv⟩ := afrzl_vrs H hm hy
    obtain ⟨x, h', rfl⟩ := ores_val hx
    exact OutR.mono hle (.ores hx fun y h'' e => abuildF_run H' (parts_rel hv) e)
  case load t a => exact .otell H hx fun x e => aload_run H (hρ a) e
  case store t a x =>
    obtain ⟨h', hs, rfl⟩ := Option.map_eq_some_iff.1 hx
    obtain ⟨w', hr, H', hg⟩ := astore_run H (hρ a) (hρ x) hs
    exact ⟨K, w', KW.le_refl K, by simp only [execOp, Sem.run_bind, hr, Result.andThen_ok, Sem.run_pure], H', hg⟩
  case nilCheck x =>
    have hv := hρ x
    split at hx <;> (try contradiction) <;> (rename_i he; rw [he] at hv; cases hx)
    all_goals
      generalize hu : ρ x = u at hv
      refine ⟨K, w, u, KW.le_refl K, ?_, H, hv, Glob.refl w⟩
      cases hv <;> simp [execOp, hu]
  case binOp op t x y yt => exact .otell H hx fun z e => abin_run (hρ x) (hρ y) e
  case unOp op t x => exact .otell H hx fun y e => aun_run (hρ x) e
  case convert s d x => exact .otell H hx fun y e => aconv_run (hρ x) e
  case makeInterface t x =>
    obtain ⟨⟨y, h1⟩, hy, hx⟩ := Option.bind_eq_some_iff.1 hx
    obtain ⟨K', hle, H', hv⟩ := afrz_run H hy
    obtain ⟨z, h', rfl⟩ := otell_val hx
    exact OutR.mono hle (.otell H' hx fun z e => amkIface_run (hv _ (hρ x)) e)
  case makeFunc fn a b =>
    cases fn <;> simp only at hx <;> try contradiction
    case func f =>
      cases hx
      refine ⟨K, w, .func (.func f) (a.map ρ) (b.map ρ), KW.le_refl K, rfl, H, ?_, Glob.refl w⟩
      have ha := VRs.map hρ a
      have hb := VRs.map hρ b
      exact .fn f _ _ _ _ ha.1 hb.1 ha.2 hb.2
  case slice t x lo hi mx =>
    cases mx with
    | some m => simp only at hx; cases hx
    | none =>
      have bnd : ∀ o : Option Operand, BndRel K (o.map fun o => nrm (ev o)) (o.map ρ) := fun o => by
        cases o with
        | none => exact trivial
        | some o => exact (hρ o).nrm
      exact .ores hx fun y h' e => aslice_run H (hρ x).defull (bnd lo) (bnd hi) e
  case fieldAddr s x k => exact .otell H hx fun y e => afieldAddr_run (hρ x) e
  case field s x k => exact .otell H hx fun y e => afield_run (hρ x) e
  case indexAddr t x i => exact .otell H hx fun y e => aindexAddr_run H (hρ x).defull (hρ i).nrm e
  case index t x i => exact .otell H hx fun y e => aindex_run (hρ x).defull (hρ i).nrm e
  case range t x =>
    have hv := hρ x
    split at hx
    · rename_i l he
      rw [he] at hv
      exact .ores hx fun y h' e => arangeM_run H hv e
    · exact .ores hx fun y h' e => arange_run H hv e
  case next x is =>
    cases is
    · exact opick_run hx fun opts e => anextM_run H (hρ x) e
    · exact .ores hx fun y h' e => anext_run H (hρ x) e
  case entry x => exact .otell H hx fun y e => aentry_run H (hρ x) e
  case makeSlice t l c =>
    split at hx
    · exact .ores hx fun y h' e => amakeF_run H (hρ _).nrm (hρ c).nrm e
    · exact .ores hx fun y h' e => amakeSlice_run H (hρ l).nrm (hρ c).nrm e
  case makeMap t r =>
    cases r with
    | some _ => simp only at hx; cases hx
    | none => cases hx; exact OutR.gives (amakeMap_run H t)
  case lookup t x k ok => exact .otell H hx fun y e => alookup_run H (hρ x) (hρ k) e
  case mapUpdate t m k x =>
    obtain ⟨h', hs, rfl⟩ := Option.map_eq_some_iff.1 hx
    obtain ⟨w', hr, H', hg⟩ := amapUpdate_run H (hρ m) (hρ k) (hρ x) hs
    exact ⟨K, w', KW.le_refl K, by simp only [execOp, Sem.run_bind, hr, Result.andThen_ok, Sem.run_pure], H', hg⟩
  case insert t m k x =>
    obtain ⟨h', hs, rfl⟩ := Option.map_eq_some_iff.1 hx
    obtain ⟨w', hr, H', hg⟩ := amapUpdate_run H (hρ m) (hρ k) (hρ x) hs
    exact ⟨K, w', KW.le_refl K, by simp only [execOp, Sem.run_bind, hr, Result.andThen_ok, Sem.run_pure], H', hg⟩
  case typeAssert x xT t ok => exact .otell H hx fun y e => aassert_run (hρ x) e
  case extract x i => exact .otell H hx fun y e => aextract_run (hρ x) e
  case panic x =>
    split at hx
    case h_2 => cases hx
    rename_i t v he
    cases hx
    have hv := hρ x
    rw [he] at hv
    generalize hu : ρ x = u at hv
    cases hv with
    | iface _ _ u' hu' => exact ⟨_, by simp [execOp, Instr.panic, hu], H, .iface t v u' hu'⟩
  case call c => exact acall_run H hρ c ty hx
  case defer c =>
    obtain ⟨callee, args, ts⟩ := c
    have ha : VRs K (args.toList.map ev) (args.map ρ) := VRs.map hρ args
    cases callee <;> simp only at hx <;> try contradiction
    case value f =>
      split at hx
      case h_2 => cases hx
      rename_i g first caps he
      split at hx
      case isFalse => cases hx
      rename_i hcall
      cases hx
      have hf := hρ f
      rw [he] at hf
      obtain ⟨fs, cs, hu, h1, h2⟩ := fn_form hf
      refine ⟨{ target := .fn (.func g) cs, args := fs ++ args.map ρ }, cs, ?_, H, rfl, ?_⟩
      · simp only [execOp, resolve, Sem.run_bind, hu, Deferred.ofValue, Sem.run_pure, Result.andThen_ok]
      · exact (h1.append ha).append h2

end Go.Proofs.YtolacfnciaimhaaGreatDoor
