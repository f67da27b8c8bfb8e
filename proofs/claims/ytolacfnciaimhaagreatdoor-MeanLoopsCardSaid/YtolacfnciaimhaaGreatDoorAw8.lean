/- What one operation does to abstract values: reckoning, comparing, conversions, texts gone through. -/
import Derived.Test.YtolacfnciaimhaaGreatDoorAw7
import Derived.Laws.StructEq
set_option linter.unusedVariables false
set_option linter.unusedSimpArgs false
namespace Go.Proofs.YtolacfnciaimhaaGreatDoor
open Go Go.RowKit

/-! ### Numbers -/
def aint (op : BinOp) (k : IntKind) (a b : Int) : Option AV := match op with
  | .add => some (.int k (k.wrap (a + b)))
  | .sub => some (.int k (k.wrap (a - b)))
  | .mul => some (.int k (k.wrap (a * b)))
  | .quo => if b = 0 then none else some (.int k (k.wrap (a.tdiv b)))
  | .rem => if b = 0 then none else some (.int k (a.tmod b))
  | .and => some (.int k (k.wrap ((BitVec.ofInt k.bits a &&& BitVec.ofInt k.bits b).toNat : Int)))
  | .or => some (.int k (k.wrap ((BitVec.ofInt k.bits a ||| BitVec.ofInt k.bits b).toNat : Int)))
  | .xor => some (.int k (k.wrap ((BitVec.ofInt k.bits a ^^^ BitVec.ofInt k.bits b).toNat : Int)))
  | .andNot => none
  | .shl => none
  | .shr => none
  | .eql => some (.bool (a == b))
  | .neq => some (.bool (a != b))
  | .lss => some (.bool (decide (a < b)))
  | .leq => some (.bool (decide (a ≤ b)))
  | .gtr => some (.bool (decide (a > b)))
  | .geq => some (.bool (decide (a ≥ b)))
def ashift (op : BinOp) (k : IntKind) (a b : Int) : Option AV := if b < 0 then none else match op with
  | .shl => some (.int k (k.wrap (a * 2 ^ (min b.toNat k.bits))))
  | .shr => some (.int k (a.fdiv (2 ^ (min b.toNat k.bits))))
  | _ => none
theorem aint_run {P : Program} {K : KW} {w : World} {op : BinOp} {t : TypeId} {k : IntKind} {a b : Int} {x : AV} (hx : aint op k a b = some x) : Tells P (binOp op t (.int k a) (.int k b)) K w x := by
  cases op <;> simp only [aint] at hx <;> try contradiction
  all_goals first
    | (cases hx; exact ⟨_, rfl, by constructor⟩)
    | (split at hx
       · cases hx
       · rename_i hb
         cases hx
         refine ⟨_, ?_, by constructor⟩
         simp only [binOp, Op.intDiv, ne_eq, not_true_eq_false, if_false, hb, Sem.run_pure])
    | (cases hx
       refine ⟨_, ?_, by constructor⟩
       simp only [binOp, Op.intArith, Op.intBits, Op.intCmp, ne_eq, not_true_eq_false, if_false, Sem.run_pure])
theorem ashift_run {P : Program} {K : KW} {w : World} {op : BinOp} {t : TypeId} {k k' : IntKind} {a b : Int} {x : AV} (hop : op = .shl ∨ op = .shr) (hx : ashift op k a b = some x) : Tells P (binOp op t (.int k a) (.int k' b)) K w x := by
  unfold ashift at hx
  split at hx
  · cases hx
  rename_i hb
  rcases hop with rfl | rfl
  all_goals
    simp only at hx
    cases hx
    refine ⟨_, ?_, by constructor⟩
    simp only [binOp, Op.shift, hb, if_false, Sem.run_pure]

/-! ### Texts -/
def astr (op : BinOp) (a b : List UInt8) : Option AV := match op with
  | .add => if a.length + b.length ≤ 9223372036854775807 then some (.str (a ++ b)) else none
  | .eql => some (.bool (a == b))
  | .neq => some (.bool (a != b))
  | .lss => some (.bool (Op.bytesLess a b))
  | .leq => some (.bool (Op.bytesLess a b || a == b))
  | .gtr => some (.bool (!(Op.bytesLess a b || a == b)))
  | .geq => some (.bool (!Op.bytesLess a b))
  | _ => none
theorem astr_run {P : Program} {K : KW} {w : World} {op : BinOp} {t : TypeId} {a b : ByteArray} {x : AV} (hx : astr op a.data.toList b.data.toList = some x) : Tells P (binOp op t (.string a) (.string b)) K w x := by
  have ea : a.toList = a.data.toList := ByteArray.toList_eq a
  have eb : b.toList = b.data.toList := ByteArray.toList_eq b
  have sa : a.data.toList.length = a.size := Array.length_toList
  have sb : b.data.toList.length = b.size := Array.length_toList
  cases op <;> simp only [astr] at hx <;> try contradiction
  case add =>
    split at hx
    case isFalse => cases hx
    rename_i hl
    cases hx
    rw [sa, sb] at hl
    have : ¬ ((a.size + b.size : Nat) : Int) > IntKind.i64.max := by
      simp only [IntKind.max, IntKind.signed, IntKind.bits]; simp; omega
    refine ⟨.string (a ++ b), ?_, ?_⟩
    · simp only [binOp, Op.stringOp, this, if_false, Sem.run_pure]
    · have e : (a ++ b).data.toList = a.data.toList ++ b.data.toList := by simp
      rw [← e]; exact .str _
  all_goals
    cases hx
    refine ⟨_, ?_, by constructor⟩
    simp only [binOp, Op.stringOp, ea, eb, Sem.run_pure]
    try rfl

/-! ### Numbers that are not known -/
abbrev SN := Int × Int × Option Nat
def sread : AV → Option (IntKind × SN)
  | .int k n => some (k, n, n, none)
  | .isym k e lo hi => some (k, lo, hi, some e)
  | .irng k lo hi => some (k, lo, hi, none)
  | _ => none
/-- A number is one of those. -/
def SIn (K : KW) (a : SN) (n : Int) : Prop := a.1 ≤ n ∧ n ≤ a.2.1 ∧ ∀ e, a.2.2 = some e → K.env e = n
theorem sread_vr {K : KW} {x : AV} {v : Value} {k : IntKind} {a : SN} (h : sread x = some (k, a)) (hv : VR K x v) : ∃ n, v = .int k n ∧ SIn K a n := by
  cases x <;> simp only [sread] at h <;> try (cases h; done)
  case int k' n => cases h; cases hv; exact ⟨n, rfl, Int.le_refl _, Int.le_refl _, fun e h => (by cases h)⟩
  case isym k' e lo hi =>
    cases h
    cases hv with
    | isym _ _ _ _ n h h1 h2 => exact ⟨n, rfl, h1, h2, fun e' he => by cases he; exact h⟩
  case irng k' lo hi =>
    cases h
    cases hv with
    | irng _ _ _ n h1 h2 => exact ⟨n, rfl, h1, h2, fun e h => (by cases h)⟩
def scmp (a b : SN) : Option Ordering := if a.2.1 < b.1 then some .lt else if b.2.1 < a.1 then some .gt else match a.2.2, b.2.2 with
  | some e, some e' => if Nat.beq e e' then some .eq else if Nat.blt e 100 && Nat.blt e' 100 then (if Nat.blt e e' then some .lt else some .gt) else none
  | _, _ => if a.1 = a.2.1 ∧ b.1 = b.2.1 ∧ a.1 = b.1 then some .eq else none
def oIs : Ordering → Int → Int → Prop
  | .lt, n, m => n < m
  | .eq, n, m => n = m
  | .gt, n, m => m < n
theorem scmp_ok {K : KW} {a b : SN} {n m : Int} {o : Ordering} (ha : SIn K a n) (hb : SIn K b m) (h : scmp a b = some o) : oIs o n m := by
  obtain ⟨a1, a2, a3⟩ := ha
  obtain ⟨b1, b2, b3⟩ := hb
  unfold scmp at h
  split at h
  · cases h; simp only [oIs]; omega
  split at h
  · cases h; simp only [oIs]; omega
  split at h
  · rename_i e e' he he'
    have h1 := a3 e he
    have h2 := b3 e' he'
    split at h
    · rename_i hee
      cases h
      have := Nat.eq_of_beq_eq_true hee
      subst this
      simp only [oIs]; omega
    · rename_i hne
      split at h
      · rename_i hlt
        simp only [Bool.and_eq_true, Nat.blt_eq] at hlt
        split at h
        · rename_i hl
          cases h
          have := K.mono e e' (by simpa using hl) hlt.2
          simp only [oIs]; omega
        · rename_i hl
          cases h
          have hne' : e ≠ e' := fun hh => hne (by rw [hh]; exact Nat.beq_refl _)
          have := K.mono e' e (by have : ¬ e < e' := by simpa using hl
                                  omega) hlt.1
          simp only [oIs]; omega
      · cases h
  · split at h
    · cases h; simp only [oIs]; omega
    · cases h
def slss (a b : SN) : Option Bool := match scmp a b with
  | some .lt => some true
  | some _ => some false
  | none => if b.2.1 ≤ a.1 then some false else none
def sleq (a b : SN) : Option Bool := match scmp a b with
  | some .gt => some false
  | some _ => some true
  | none => if a.2.1 ≤ b.1 then some true else none
def seql (a b : SN) : Option Bool := match scmp a b with
  | some .eq => some true
  | some _ => some false
  | none => none
theorem slss_ok {K : KW} {a b : SN} {n m : Int} {r : Bool} (ha : SIn K a n) (hb : SIn K b m) (h : slss a b = some r) : r = decide (n < m) := by
  unfold slss at h
  split at h
  · rename_i hc; cases h; have := scmp_ok ha hb hc; simp only [oIs] at this; simp [this]
  · rename_i o hne hc
    cases h
    have := scmp_ok ha hb hc
    cases o <;> simp only [oIs] at this <;> first | (exact absurd rfl hne) | (symm; simp; omega)
  · split at h
    · cases h
      obtain ⟨a1, a2, _⟩ := ha
      obtain ⟨b1, b2, _⟩ := hb
      symm; simp; omega
    · cases h
theorem sleq_ok {K : KW} {a b : SN} {n m : Int} {r : Bool} (ha : SIn K a n) (hb : SIn K b m) (h : sleq a b = some r) : r = decide (n ≤ m) := by
  unfold sleq at h
  split at h
  · rename_i hc; cases h; have := scmp_ok ha hb hc; simp only [oIs] at this; symm; simp; omega
  · rename_i o hne hc
    cases h
    have := scmp_ok ha hb hc
    cases o <;> simp only [oIs] at this <;> first | (exact absurd rfl hne) | (symm; simp; omega)
  · split at h
    · cases h
      obtain ⟨a1, a2, _⟩ := ha
      obtain ⟨b1, b2, _⟩ := hb
      symm; simp; omega
    · cases h
theorem seql_ok {K : KW} {a b : SN} {n m : Int} {r : Bool} (ha : SIn K a n) (hb : SIn K b m) (h : seql a b = some r) : r = (n == m) := by
  unfold seql at h
  split at h
  · rename_i hc; cases h; have := scmp_ok ha hb hc; simp only [oIs] at this; simp [this]
  · rename_i o hne hc
    cases h
    have := scmp_ok ha hb hc
    cases o <;> simp only [oIs] at this <;> first | (exact absurd rfl hne) | (symm; simp; omega)
  · cases h
def srng (k : IntKind) (lo hi : Int) : Option AV := if k.min ≤ lo ∧ hi ≤ k.max then some (nrm (.irng k lo hi)) else none
theorem wrap_id {k : IntKind} {n : Int} (h1 : k.min ≤ n) (h2 : n ≤ k.max) : k.wrap n = n := by
  cases k <;> simp [IntKind.wrap, IntKind.min, IntKind.max, IntKind.signed, IntKind.bits] at h1 h2 ⊢ <;> (try split) <;> omega
theorem srng_ok {K : KW} {k : IntKind} {lo hi n : Int} {z : AV} (h : srng k lo hi = some z) (h1 : lo ≤ n) (h2 : n ≤ hi) : VR K z (.int k (k.wrap n)) := by
  unfold srng at h
  split at h
  · rename_i hh
    cases h
    rw [wrap_id (by omega) (by omega)]
    exact (VR.irng k lo hi n h1 h2).nrm
  · cases h
def sbin (op : BinOp) (k : IntKind) (a b : SN) : Option AV := match op with
  | .lss => (slss a b).map .bool
  | .gtr => (slss b a).map .bool
  | .leq => (sleq a b).map .bool
  | .geq => (sleq b a).map .bool
  | .eql => (seql a b).map .bool
  | .neq => (seql a b).map fun r => .bool (!r)
  | .add => srng k (a.1 + b.1) (a.2.1 + b.2.1)
  | .sub => srng k (match scmp b a with | some .lt => max 1 (a.1 - b.2.1) | _ => a.1 - b.2.1) (a.2.1 - b.1)
  | .mul => if 0 ≤ a.1 ∧ 0 ≤ b.1 then srng k (a.1 * b.1) (a.2.1 * b.2.1) else none
  | _ => none
theorem sbin_ok {P : Program} {K : KW} {w : World} {op : BinOp} {t : TypeId} {k : IntKind} {a b : SN} {n m : Int} {z : AV} (ha : SIn K a n) (hb : SIn K b m) (h : sbin op k a b = some z) : Tells P (binOp op t (.int k n) (.int k m)) K w z := by
  have tell : ∀ z0 : AV, aint op k n m = some z0 → (∀ v, VR K z0 v → VR K z v) → Tells P (binOp op t (.int k n) (.int k m)) K w z := fun z0 h0 hz => by
    obtain ⟨v, hr, hv⟩ := aint_run (P := P) (K := K) (w := w) (t := t) h0
    exact ⟨v, hr, hz v hv⟩
  have hab := ha
  have hbb := hb
  obtain ⟨a1, a2, a3⟩ := ha
  obtain ⟨b1, b2, b3⟩ := hb
  cases op <;> simp only [sbin] at h <;> try (cases h; done)
  case lss => obtain ⟨r, hr, rfl⟩ := Option.map_eq_some_iff.1 h; exact tell _ rfl fun v hv => by rw [slss_ok hab hbb hr]; exact hv
  case gtr => obtain ⟨r, hr, rfl⟩ := Option.map_eq_some_iff.1 h; exact tell _ rfl fun v hv => by rw [slss_ok hbb hab hr]; exact hv
  case leq => obtain ⟨r, hr, rfl⟩ := Option.map_eq_some_iff.1 h; exact tell _ rfl fun v hv => by rw [sleq_ok hab hbb hr]; exact hv
  case geq => obtain ⟨r, hr, rfl⟩ := Option.map_eq_some_iff.1 h; exact tell _ rfl fun v hv => by rw [sleq_ok hbb hab hr]; exact hv
  case eql => obtain ⟨r, hr, rfl⟩ := Option.map_eq_some_iff.1 h; exact tell _ rfl fun v hv => by rw [seql_ok hab hbb hr]; exact hv
  case neq => obtain ⟨r, hr, rfl⟩ := Option.map_eq_some_iff.1 h; exact tell _ rfl fun v hv => by rw [seql_ok hab hbb hr]; exact hv
  case add => exact tell _ rfl fun v hv => by cases hv; exact srng_ok h (by omega) (by omega)
  case sub =>
    refine tell _ rfl fun v hv => ?_
    cases hv
    refine srng_ok h ?_ (by omega)
    split
    · rename_i hc
      have := scmp_ok hbb hab hc
      simp only [oIs] at this
      omega
    · omega
  case mul =>
    split at h
    · rename_i hh
      refine tell _ rfl fun v hv => ?_
      cases hv
      exact srng_ok h (Int.mul_le_mul a1 b1 hh.2 (by omega)) (Int.mul_le_mul a2 b2 (by omega) (by omega))
    · cases h
/-! ### So many times a number that is not known, in 32 bits -/
def linOf : AV → Option (Nat × Nat)
  | .isym .u32 e lo hi => if 0 ≤ lo ∧ hi ≤ 4294967295 then some (e, 1) else none
  | .ilin e c => some (e, c)
  | _ => none
theorem linOf_vr {K : KW} {x : AV} {v : Value} {e c : Nat} (h : linOf x = some (e, c)) (hv : VR K x v) : v = .int .u32 (((c : Int) * K.env e) % 4294967296) := by
  unfold linOf at h
  split at h
  · split at h
    · rename_i e' lo hi hh
      cases h
      cases hv with
      | isym _ _ _ _ n h h1 h2 =>
        congr 1
        rw [h]
        omega
    · cases h
  · cases h
    cases hv with
    | ilin _ _ n h => rw [h]
  · cases h
def mkLin (e c : Nat) : AV := if c = 0 then .int .u32 0 else .ilin e c
theorem mkLin_vr (K : KW) (e c : Nat) : VR K (mkLin e c) (.int .u32 (((c : Int) * K.env e) % 4294967296)) := by
  unfold mkLin
  split
  · rename_i h
    subst h
    simp only [Int.natCast_zero, Int.zero_mul, Int.zero_emod]
    exact .int _ _
  · exact .ilin e c _ rfl
def slin (op : BinOp) (x y : AV) : Option AV := match op with
  | .add => match x, linOf x, y, linOf y with
    | .int .u32 n, _, y, some _ => if n = 0 then some y else none
    | _, some (e, c), _, some (e', c') => if Nat.beq e e' then some (mkLin e (c + c')) else none
    | _, _, _, _ => none
  | .mul => match x, linOf y with
    | .int .u32 n, some (e, c) => if 0 ≤ n then some (mkLin e (n.toNat * c)) else none
    | _, _ => none
  | .eql => match linOf x, linOf y with
    | some (e, c), some (e', c') => if Nat.beq e e' && Nat.beq c c' then some (.bool true) else none
    | _, _ => none
  | .neq => match linOf x, linOf y with
    | some (e, c), some (e', c') => if Nat.beq e e' && Nat.beq c c' then some (.bool false) else none
    | _, _ => none
  | _ => none
theorem wrap_u32 (n : Int) : IntKind.u32.wrap n = n % 4294967296 := by
  simp [IntKind.wrap, IntKind.signed, IntKind.bits]
theorem lin_add (a b N : Int) : ((a * N) % 4294967296 + (b * N) % 4294967296) % 4294967296 = ((a + b) * N) % 4294967296 := by
  rw [Int.add_mul, ← Int.add_emod]
theorem lin_mul (m a N : Int) : (m * ((a * N) % 4294967296)) % 4294967296 = (m * a * N) % 4294967296 := by
  rw [Int.mul_assoc, Int.mul_emod m (a * N), Int.mul_emod m ((a * N) % 4294967296), Int.emod_emod]
theorem slin_ok {P : Program} {K : KW} {w : World} {op : BinOp} {t : TypeId} {x y z : AV} {u v : Value} (hx : VR K x u) (hy : VR K y v) (h : slin op x y = some z) : ∃ k n m, u = .int k n ∧ v = .int k m ∧ Tells P (binOp op t u v) K w z := by
  have tell : ∀ {n m : Int} (z0 : AV), aint op .u32 n m = some z0 → (∀ v, VR K z0 v → VR K z v) → Tells P (binOp op t (.int .u32 n) (.int .u32 m)) K w z := fun z0 h0 hz => by
    obtain ⟨v, hr, hv⟩ := aint_run (P := P) (K := K) (w := w) (t := t) h0
    exact ⟨v, hr, hz v hv⟩
  unfold slin at h
  split at h
  · split at h
    · rename_i n q hly
      split at h
      case isFalse => cases h
      rename_i h0
      subst h0
      cases h
      obtain ⟨e, c⟩ := q
      have hv := linOf_vr hly hy
      subst hv
      cases hx
      refine ⟨_, _, _, rfl, rfl, tell _ rfl fun v hv => ?_⟩
      cases hv
      rw [wrap_u32, Int.zero_add, Int.emod_emod]
      exact hy
    · rename_i e c e' c' _ hlx hly
      split at h
      case isFalse => cases h
      rename_i hee
      have := Nat.eq_of_beq_eq_true hee
      subst this
      cases h
      have h1 := linOf_vr hlx hx
      have h2 := linOf_vr hly hy
      subst h1; subst h2
      refine ⟨_, _, _, rfl, rfl, tell _ rfl fun v hv => ?_⟩
      cases hv
      rw [wrap_u32, lin_add, ← Int.natCast_add]
      exact mkLin_vr K e (c + c')
    · cases h
  · split at h
    · rename_i n e c hly
      split at h
      case isFalse => cases h
      rename_i h0
      cases h
      have h2 := linOf_vr hly hy
      subst h2
      cases hx
      refine ⟨_, _, _, rfl, rfl, tell _ rfl fun v hv => ?_⟩
      cases hv
      rw [wrap_u32, lin_mul]
      have hn : ((n.toNat * c : Nat) : Int) = n * c := by rw [Int.natCast_mul]; congr 1; omega
      rw [← hn]
      exact mkLin_vr K e (n.toNat * c)
    · cases h
  · split at h
    · rename_i e c e' c' hlx hly
      split at h
      case isFalse => cases h
      rename_i hee
      rw [Bool.and_eq_true] at hee
      have g1 := Nat.eq_of_beq_eq_true hee.1
      have g2 := Nat.eq_of_beq_eq_true hee.2
      subst g1; subst g2
      cases h
      have h1 := linOf_vr hlx hx
      have h2 := linOf_vr hly hy
      subst h1; subst h2
      exact ⟨_, _, _, rfl, rfl, tell _ rfl fun v hv => by simpa using hv⟩
    · cases h
  · split at h
    · rename_i e c e' c' hlx hly
      split at h
      case isFalse => cases h
      rename_i hee
      rw [Bool.and_eq_true] at hee
      have g1 := Nat.eq_of_beq_eq_true hee.1
      have g2 := Nat.eq_of_beq_eq_true hee.2
      subst g1; subst g2
      cases h
      have h1 := linOf_vr hlx hx
      have h2 := linOf_vr hly hy
      subst h1; subst h2
      exact ⟨_, _, _, rfl, rfl, tell _ rfl fun v hv => by simpa using hv⟩
    · cases h
  · cases h
/-- Two texts of which one is not known. -/
def signs10 : List (List UInt8) := [[], [43], [45], [42], [38], [124], [94], [60, 60], [62, 62], [60], [61, 61]]
def sseql : AV → AV → Option Bool
  | .ssym c e _ _, .ssym c' e' _ _ => if Nat.beq c c' && Nat.beq e e' then some true else none
  | .ssym 0 _ _ _, .str s => if signs10.all fun t => !(t == s) then some false else none
  | _, _ => none
theorem signTxt_mem (n : Nat) : signTxt n ∈ signs10 := by
  unfold signTxt
  split <;> decide
theorem sseql_ok {K : KW} {x y : AV} {u v : Value} {r : Bool} (hx : VR K x u) (hy : VR K y v) (h : sseql x y = some r) : ∃ a b : ByteArray, u = .string a ∧ v = .string b ∧ r = (a.data.toList == b.data.toList) := by
  unfold sseql at h
  split at h
  · split at h
    · rename_i hh
      simp only [Bool.and_eq_true] at hh
      have h1 := Nat.eq_of_beq_eq_true hh.1
      have h2 := Nat.eq_of_beq_eq_true hh.2
      subst h1; subst h2
      cases h
      cases hx with
      | ssym _ _ _ _ a ha => cases hy with
        | ssym _ _ _ _ b hb => exact ⟨a, b, rfl, rfl, by rw [ha, hb]; simp⟩
    · cases h
  · split at h
    · rename_i e lo hi s hh
      cases h
      generalize hs : AV.str s = ys at hy
      cases hx with
      | ssym _ _ _ _ a ha =>
        cases hy <;> cases hs
        rename_i b
        refine ⟨a, b, rfl, rfl, ?_⟩
        have := List.all_eq_true.1 hh _ (signTxt_mem (K.env e).toNat)
        rw [ha]
        simp only [symTxt]
        cases hq : (signTxt (K.env e).toNat == b.data.toList) with
        | false => rfl
        | true => rw [hq] at this; cases this
    · cases h
  · cases h

/-! ### Equality of rows -/
def aeqs (P : Program) (eq : TypeId → AV → AV → Option Bool) (xs ys : List AV) : List Field → Option Bool
  | [] => some true
  | f :: fs => if f.name = "_" then none else
    (getv P f.type xs f.offset).bind fun a => (getv P f.type ys f.offset).bind fun b => (eq f.type a b).bind fun r => if r then aeqs P eq xs ys fs else some false
def aeqf (P : Program) : Nat → TypeId → AV → AV → Option Bool
  | 0, _, _, _ => none
  | d + 1, t, x, y => match x, y with
    | .bool a, .bool b => match P.underlying t with
      | some .bool => some (a == b)
      | _ => none
    | .int k a, .int k' b => match P.underlying t with
      | some (.int _) => if k = k' then some (a == b) else none
      | _ => none
    | .str a, .str b => match P.underlying t with
      | some .string => some (a == b)
      | _ => none
    | .agg xs, .agg ys => match P.underlying t with
      | some (.struct fs) => if P.stoodInHeld t then none else aeqs P (aeqf P d) xs ys fs.toList
      | _ => none
    | x, y => match P.underlying t with
      | some (.int _) => match sread x, sread y with
        | some (k, a), some (k', b) => if k = k' then seql a b else none
        | _, _ => none
      | some .string => sseql x y
      | _ => none

theorem str_beq (a b : ByteArray) : (a == b) = (a.data.toList == b.data.toList) := by
  rw [beq_toListBytes, ByteArray.toList_eq, ByteArray.toList_eq]


theorem aeqs_run {P : Program} {K : KW} {w : World} {d : Nat} {xs ys : List AV} {us vs : Array Value} (hx : VR K (.agg xs) (.agg us)) (hy : VR K (.agg ys) (.agg vs))
    (ih : ∀ t x y u v r, VR K x u → VR K y v → aeqf P d t x y = some r → (Op.equalIn d t u v).run P w = .ok r w) :
    ∀ (fs : List Field) (r : Bool), aeqs P (aeqf P d) xs ys fs = some r → (Op.eqFields d us vs fs).run P w = .ok r w
  | [], r, h => by
    simp only [aeqs, Option.some.injEq] at h
    subst h
    rfl
  | f :: fs, r, h => by
    simp only [aeqs] at h
    split at h
    · cases h
    rename_i hn
    obtain ⟨a, ha, h1⟩ := Option.bind_eq_some_iff.1 h
    obtain ⟨b, hb, h2⟩ := Option.bind_eq_some_iff.1 h1
    obtain ⟨q, hq, h3⟩ := Option.bind_eq_some_iff.1 h2
    obtain ⟨u, hu, hua⟩ := part_run (P := P) (w := w) hx ha
    obtain ⟨v, hv, hvb⟩ := part_run (P := P) (w := w) hy hb
    have e := ih _ _ _ _ _ _ hua hvb hq
    simp only [Op.eqFields, ne_eq, hn, not_false_eq_true, if_true, Sem.run_bind, hu, hv, e, Result.andThen_ok]
    cases q
    · simp only [Bool.false_eq_true, if_false, Option.some.injEq] at h3
      subst h3
      simp
    · simp only [if_true] at h3
      have rest := aeqs_run hx hy ih fs r h3
      simp only [Bool.not_true, Bool.false_eq_true, if_false, rest]

theorem aeqf_run {P : Program} {K : KW} {w : World} : ∀ (d : Nat) (t : TypeId) (x y : AV) (u v : Value) (r : Bool), VR K x u → VR K y v → aeqf P d t x y = some r → (Op.equalIn d t u v).run P w = .ok r w
  | 0, _, _, _, _, _, _, _, _, h => by simp [aeqf] at h
  | d + 1, t, x, y, u, v, r, hx, hy, h => by
    unfold aeqf at h
    split at h
    · rename_i a b
      cases hx; cases hy
      split at h
      · rename_i hu
        cases h
        exact run_equalIn_bool w d t a b hu
      · cases h
    · rename_i k a k' b
      cases hx; cases hy
      split at h
      · rename_i k2 hu
        split at h
        · rename_i hk
          subst hk
          cases h
          exact run_equalIn_int w d t k k2 a b hu
        · cases h
      · cases h
    · rename_i a b
      cases hx; cases hy
      split at h
      · rename_i hu
        cases h
        rw [run_equalIn_string w d t _ _ hu, ByteArray.toList_eq, ByteArray.toList_eq]
      · cases h
    · rename_i xs ys
      split at h
      · rename_i fs hu
        split at h
        · cases h
        rename_i hs
        have hx' := hx
        have hy' := hy
        cases hx with
        | agg _ us =>
          cases hy with
          | agg _ vs =>
            have hf : P.fieldsOf t = fs := by simp [Program.fieldsOf, hu]
            rw [run_equalIn_struct w d t _ _ (by rw [hf]; exact hu) (by simpa using hs), hf]
            exact aeqs_run hx' hy' (fun t x y u v r h1 h2 h3 => aeqf_run d t x y u v r h1 h2 h3) fs.toList r h
      · cases h
    · split at h
      · rename_i k2 hu
        split at h
        · rename_i k a k' b hxa hyb
          split at h
          case isFalse => cases h
          rename_i hk
          subst hk
          obtain ⟨n, rfl, hn⟩ := sread_vr hxa hx
          obtain ⟨m, rfl, hm⟩ := sread_vr hyb hy
          rw [seql_ok hn hm h]
          exact run_equalIn_int w d t k k2 n m hu
        · cases h
      · rename_i hu
        obtain ⟨a, b, rfl, rfl, rfl⟩ := sseql_ok hx hy h
        rw [run_equalIn_string w d t _ _ hu, ByteArray.toList_eq, ByteArray.toList_eq]
      · cases h

/-! ### An operation of two -/
def abin (P : Program) (op : BinOp) (t : TypeId) (x y : AV) : Option AV := match x, y with
  | .int k a, .int k' b => match op with
    | .shl => ashift op k a b
    | .shr => ashift op k a b
    | op => if k = k' then aint op k a b else none
  | .str a, .str b => astr op a b
  | .bool a, .bool b => match tkind P t, op with
    | .bool, .eql => some (.bool (a == b))
    | .bool, .neq => some (.bool (a != b))
    | _, _ => none
  | .agg xs, .agg ys => if P.eqGuardType P.depth t then none else match op with
    | .eql => (aeqf P 10000 t (.agg xs) (.agg ys)).map .bool
    | .neq => (aeqf P 10000 t (.agg xs) (.agg ys)).map fun r => .bool (!r)
    | _ => none
  | .nilp, .nilp => match tkind P t, op with
    | .ptr, .eql => some (.bool true)
    | .ptr, .neq => some (.bool false)
    | _, _ => none
  | .ptr _ _, .nilp => match tkind P t, op with
    | .ptr, .eql => some (.bool false)
    | .ptr, .neq => some (.bool true)
    | _, _ => none
  | x, y => match op with
    | .shl => none
    | .shr => none
    | op => match slin op x y with
    | some z => some z
    | none => match sread x, sread y with
      | some (k, a), some (k', b) => if k = k' then sbin op k a b else none
      | _, _ => match op with
        | .eql => (sseql x y).map .bool
        | .neq => (sseql x y).map fun r => .bool (!r)
        | _ => none

theorem tkind_bool {P : Program} {t : TypeId} (h : tkind P t = .bool) : P.underlying t = some .bool := by
  unfold tkind at h
  split at h <;> first | assumption | cases h
theorem tkind_ptr {P : Program} {t : TypeId} (h : tkind P t = .ptr) : ∃ e, P.underlying t = some (.pointer e) := by
  unfold tkind at h
  split at h <;> first | (rename_i e he; exact ⟨_, he⟩) | cases h

theorem run_equalIn_nilnil {P : Program} {w : World} (d : Nat) {t e : TypeId} (he : P.underlying t = some (.pointer e)) : (Op.equalIn (d + 1) t (.pointer none) (.pointer none)).run P w = .ok true w := by
  simp only [Op.equalIn, Sem.run_bind, run_underlying he, Result.andThen_ok, Sem.run_pure, Option.isNone_none]
theorem run_equalIn_ptrnil {P : Program} {w : World} (d : Nat) {t e : TypeId} (a : Addr) (he : P.underlying t = some (.pointer e)) : (Op.equalIn (d + 1) t (.pointer (some a)) (.pointer none)).run P w = .ok false w := by
  simp only [Op.equalIn, Sem.run_bind, run_underlying he, Result.andThen_ok, Sem.run_pure]
theorem bin_eql_ptr {P : Program} {w : World} {t : TypeId} {a b : Option Addr} {r : Bool} (h : (Op.equalIn 10000 t (.pointer a) (.pointer b)).run P w = .ok r w) : (binOp .eql t (.pointer a) (.pointer b)).run P w = .ok (.bool r) w := by
  have e : binOp .eql t (.pointer a) (.pointer b) = (do pure (.bool (← Op.equal t (.pointer a) (.pointer b)))) := by
    cases a <;> cases b <;> rfl
  rw [e]
  simp only [Sem.run_bind, Op.equal, Op.maxDepth, h, Result.andThen_ok, Sem.run_pure]
theorem bin_neq_ptr {P : Program} {w : World} {t : TypeId} {a b : Option Addr} {r : Bool} (h : (Op.equalIn 10000 t (.pointer a) (.pointer b)).run P w = .ok r w) : (binOp .neq t (.pointer a) (.pointer b)).run P w = .ok (.bool (!r)) w := by
  have e : binOp .neq t (.pointer a) (.pointer b) = (do pure (.bool (!(← Op.equal t (.pointer a) (.pointer b))))) := by
    cases a <;> cases b <;> rfl
  rw [e]
  simp only [Sem.run_bind, Op.equal, Op.maxDepth, h, Result.andThen_ok, Sem.run_pure]
theorem abin_run {P : Program} {K : KW} {w : World} {op : BinOp} {t : TypeId} {ox oy : Operand} {x y z : AV} {u v : Value} (hx : VR K x u) (hy : VR K y v) (h : abin P op t x y = some z) :
    Tells P (do eqGuard op t ox oy u v; binOp op t u v) K w z := by
  have guard : (∀ cs, u ≠ .agg cs) → u ≠ .nilIface → (eqGuard op t ox oy u v).run P w = .ok () w := by
    intro h1 h2
    cases op <;> cases u <;> first | rfl | (exact absurd rfl h2) | (exact absurd rfl (h1 _))
  have plain : (∀ cs, u ≠ .agg cs) → u ≠ .nilIface → Tells P (binOp op t u v) K w z → Tells P (do eqGuard op t ox oy u v; binOp op t u v) K w z := by
    rintro h1 h2 ⟨r, hr, hv⟩
    exact ⟨r, by simp only [Sem.run_bind, guard h1 h2, Result.andThen_ok, hr], hv⟩
  unfold abin at h
  split at h
  · rename_i k a k' b
    cases hx; cases hy
    refine plain (by simp) (by simp) ?_
    split at h
    · exact ashift_run (.inl rfl) h
    · exact ashift_run (.inr rfl) h
    · split at h
      · rename_i hk
        subst hk
        exact aint_run h
      · cases h
  · cases hx; cases hy
    exact plain (by simp) (by simp) (astr_run h)
  · rename_i a b
    cases hx; cases hy
    refine plain (by simp) (by simp) ?_
    split at h
    · rename_i hk
      cases h
      exact ⟨_, by simp only [binOp, Op.equal, Op.maxDepth, Sem.run_bind, run_equalIn_bool w 9999 t a b (tkind_bool hk), Result.andThen_ok, Sem.run_pure], .bool _⟩
    · rename_i hk
      cases h
      exact ⟨_, by simp only [binOp, Op.equal, Op.maxDepth, Sem.run_bind, run_equalIn_bool w 9999 t a b (tkind_bool hk), Result.andThen_ok, Sem.run_pure]; rfl, .bool _⟩
    · cases h
  · rename_i xs ys
    split at h
    · cases h
    rename_i hg
    have hx' := hx
    have hy' := hy
    cases hx with
    | agg _ us =>
      cases hy with
      | agg _ vs =>
        have g := run_eqGuard_agg (P := P) w op t ox oy us vs (by simpa using hg)
        split at h
        · obtain ⟨r, hr, rfl⟩ := Option.map_eq_some_iff.1 h
          exact ⟨_, by simp only [Sem.run_bind, g, Result.andThen_ok, run_eql_struct, aeqf_run 10000 t _ _ _ _ r hx' hy' hr], .bool _⟩
        · obtain ⟨r, hr, rfl⟩ := Option.map_eq_some_iff.1 h
          exact ⟨_, by simp only [Sem.run_bind, g, Result.andThen_ok, run_neq_struct, aeqf_run 10000 t _ _ _ _ r hx' hy' hr], .bool _⟩
        · cases h
  · cases hx; cases hy
    refine plain (by simp) (by simp) ?_
    split at h
    · rename_i hk
      obtain ⟨e, he⟩ := tkind_ptr hk
      cases h
      exact ⟨_, bin_eql_ptr (run_equalIn_nilnil 9999 he), .bool _⟩
    · rename_i hk
      obtain ⟨e, he⟩ := tkind_ptr hk
      cases h
      exact ⟨_, bin_neq_ptr (run_equalIn_nilnil 9999 he), .bool _⟩
    · cases h
  · cases hx; cases hy
    refine plain (by simp) (by simp) ?_
    split at h
    · rename_i hk
      obtain ⟨e, he⟩ := tkind_ptr hk
      cases h
      exact ⟨_, bin_eql_ptr (run_equalIn_ptrnil 9999 _ he), .bool _⟩
    · rename_i hk
      obtain ⟨e, he⟩ := tkind_ptr hk
      cases h
      exact ⟨_, bin_neq_ptr (run_equalIn_ptrnil 9999 _ he), .bool _⟩
    · cases h
  · split at h
    · cases h
    · cases h
    split at h
    · rename_i z0 hsl
      cases h
      obtain ⟨k, n, m, rfl, rfl, ht⟩ := slin_ok (P := P) (w := w) (t := t) hx hy hsl
      exact plain (by simp) (by simp) ht
    · split at h
      · rename_i k a k' b hxa hyb
        split at h
        case isFalse => cases h
        rename_i hk
        subst hk
        obtain ⟨n, rfl, hn⟩ := sread_vr hxa hx
        obtain ⟨m, rfl, hm⟩ := sread_vr hyb hy
        exact plain (by simp) (by simp) (sbin_ok hn hm h)
      · split at h
        · obtain ⟨r, hr, rfl⟩ := Option.map_eq_some_iff.1 h
          obtain ⟨a, b, rfl, rfl, rfl⟩ := sseql_ok hx hy hr
          refine plain (by simp) (by simp) ?_
          have := astr_run (P := P) (K := K) (w := w) (op := .eql) (t := t) (a := a) (b := b) rfl
          exact this
        · obtain ⟨r, hr, rfl⟩ := Option.map_eq_some_iff.1 h
          obtain ⟨a, b, rfl, rfl, rfl⟩ := sseql_ok hx hy hr
          refine plain (by simp) (by simp) ?_
          have := astr_run (P := P) (K := K) (w := w) (op := .neq) (t := t) (a := a) (b := b) rfl
          exact this
        · cases h

/-! ### One operand -/
def aun (op : UnOp) (x : AV) : Option AV := match op, x with
  | .not, .bool b => some (.bool (!b))
  | .neg, .int k n => some (.int k (k.wrap (0 - n)))
  | _, _ => none
theorem aun_run {P : Program} {K : KW} {w : World} {op : UnOp} {x y : AV} {v : Value} (hx : VR K x v) (h : aun op x = some y) : Tells P (Op.unary op v) K w y := by
  unfold aun at h
  split at h
  · cases hx; cases h; exact ⟨_, rfl, .bool _⟩
  · cases hx; cases h; exact ⟨_, rfl, .int _ _⟩
  · cases h

/-- A slice of bytes as a text. -/
def bytesOf : List (List AV) → Option (List UInt8)
  | [] => some []
  | [.int .u8 n] :: rest => if 0 ≤ n ∧ n < 256 then (bytesOf rest).map (UInt8.ofNat n.toNat :: ·) else none
  | _ :: _ => none

def aconv (P : Program) (src dst : TypeId) (x : AV) : Option AV := match x with
  | .int _ n => match tkind P dst with
    | .int k => if (P.underlying src).isSome then some (.int k (k.wrap n)) else none
    | _ => none
  | .str s => match tkind P dst with
    | .str => if (P.underlying src).isSome then some (.str s) else none
    | _ => none
  | .isym _ e lo hi => match tkind P dst with
    | .int k => if (P.underlying src).isSome then if k.min ≤ lo ∧ hi ≤ k.max then some (.isym k e lo hi) else none else none
    | _ => none
  | .irng _ lo hi => match tkind P dst with
    | .int k => if (P.underlying src).isSome then if k.min ≤ lo ∧ hi ≤ k.max then some (.irng k lo hi) else none else none
    | _ => none
  | _ => none
theorem tkind_int {P : Program} {t : TypeId} {k : IntKind} (h : tkind P t = .int k) : P.underlying t = some (.int k) := by
  unfold tkind at h
  split at h <;> first | (rename_i k' he; cases h; exact he) | cases h
theorem aconv_run {P : Program} {K : KW} {w : World} {src dst : TypeId} {x y : AV} {v : Value} (hx : VR K x v) (h : aconv P src dst x = some y) : Tells P (convert src dst v) K w y := by
  unfold aconv at h
  split at h
  · split at h
    · rename_i hk
      split at h
      · rename_i hs
        obtain ⟨d, hd⟩ := Option.isSome_iff_exists.1 hs
        cases hx; cases h
        refine ⟨_, ?_, .int _ _⟩
        simp only [convert, Sem.run_bind, run_underlying hd, run_underlying (tkind_int hk), Result.andThen_ok, Conv.intToInt, Sem.run_pure]
      · cases h
    · cases h
  · split at h
    · rename_i hk
      split at h
      · rename_i hs
        obtain ⟨d, hd⟩ := Option.isSome_iff_exists.1 hs
        cases hx; cases h
        refine ⟨_, ?_, .str _⟩
        simp only [convert, Sem.run_bind, run_underlying hd, run_underlying (tkind_str hk), Result.andThen_ok, Sem.run_pure]
      · cases h
    · cases h
  · split at h
    · rename_i hk
      split at h
      case isFalse => cases h
      rename_i hs
      split at h
      case isFalse => cases h
      rename_i hb
      obtain ⟨d, hd⟩ := Option.isSome_iff_exists.1 hs
      cases h
      cases hx with
      | isym _ _ _ _ n h1 h2 h3 =>
        refine ⟨_, ?_, .isym _ _ _ _ n h1 h2 h3⟩
        simp only [convert, Sem.run_bind, run_underlying hd, run_underlying (tkind_int hk), Result.andThen_ok, Conv.intToInt, Sem.run_pure]
        rw [wrap_id (by omega) (by omega)]
    · cases h
  · split at h
    · rename_i hk
      split at h
      case isFalse => cases h
      rename_i hs
      split at h
      case isFalse => cases h
      rename_i hb
      obtain ⟨d, hd⟩ := Option.isSome_iff_exists.1 hs
      cases h
      cases hx with
      | irng _ _ _ n h2 h3 =>
        refine ⟨_, ?_, .irng _ _ _ n h2 h3⟩
        simp only [convert, Sem.run_bind, run_underlying hd, run_underlying (tkind_int hk), Result.andThen_ok, Conv.intToInt, Sem.run_pure]
        rw [wrap_id (by omega) (by omega)]
    · cases h
  · cases h

def aextract (x : AV) (i : Nat) : Option AV := match x with
  | .tuple vs => vs[i]?
  | _ => none
theorem aextract_run {P : Program} {K : KW} {w : World} {x y : AV} {i : Nat} {v : Value} (hx : VR K x v) (h : aextract x i = some y) : Tells P (Instr.extract v i) K w y := by
  unfold aextract at h
  split at h
  · cases hx with
    | tuple vs cs hn hv =>
      obtain ⟨u, hu, huv⟩ := VRs.get (K := K) ⟨hn, hv⟩ h
      exact ⟨u, by simp only [Instr.extract, hu, Sem.run_pure], huv⟩
  · cases h

def amkIface (P : Program) (t : TypeId) (x : AV) : Option AV := match tkind P t, P.underlying t with
  | .iface, _ => none
  | _, some _ => some (.iface t x)
  | _, none => none
theorem amkIface_run {P : Program} {K : KW} {w : World} {t : TypeId} {x y : AV} {v : Value} (hx : VR K x v) (h : amkIface P t x = some y) : Tells P (Instr.makeInterface t v) K w y := by
  unfold amkIface at h
  split at h
  · cases h
  · rename_i d hd hk
    cases h
    refine ⟨_, ?_, .iface t _ _ hx⟩
    simp only [Instr.makeInterface, Sem.run_bind, run_underlying hd, Result.andThen_ok]
    cases d <;> first | rfl | (exact (hk (by simp [tkind, hd])).elim)
  · cases h

end Go.Proofs.YtolacfnciaimhaaGreatDoor
