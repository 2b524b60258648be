/-
  The operations that look at operands alone: what the abstract machine answers is what the model's operation answers, in any world.
-/
import Derived.Test.YtjdcodjoheckcaaGreatDoorBbRel
namespace Go.Bb
variable {P : Program}

def PureOk (P : Program) (o : Op) (po : POp) : Prop :=
  ∀ (tm : Tm) (ret : AV → R) (r : AV × AH), po tm ret = some r → ∃ v, ret v = some r ∧
    ∀ (ρ : Emb) (ce : Operand → Value), EvR ρ tm ce o.operands → ∃ cv, VR ρ v cv ∧ ∀ (O : Oper) (w : World), O.op = o → (execOp ce O).run P w = .ok (.value cv) w

section
variable {x y c : Operand} {ax ay ac : Opd} {t t2 : TypeId}

theorem ev1 {ρ : Emb} {tm : Tm} {ce : Operand → Value} {o : Op} {v : AV} (he : EvR ρ tm ce o.operands) (hx : opd x = some ax) (hm : x ∈ o.operands) (e : ax tm = v) : VR ρ v (ce x) := e ▸ he x hm ax hx

theorem pure_move (hx : opd x = some ax) : PureOk P (.move x) (vMove ax) := by
  intro tm ret r h
  rw [vMove, lookK_eq] at h
  exact ⟨_, h, fun ρ ce he => ⟨_, he x (by simp [Op.operands]) ax hx, fun O w hO => by simp [execOp, hO]⟩⟩
theorem pure_assign (hx : opd x = some ax) : PureOk P (.assign x) (vMove ax) := by
  intro tm ret r h
  rw [vMove, lookK_eq] at h
  exact ⟨_, h, fun ρ ce he => ⟨_, he x (by simp [Op.operands]) ax hx, fun O w hO => by simp [execOp, hO]⟩⟩
theorem pure_pick (hc : opd c = some ac) (hx : opd x = some ax) (hy : opd y = some ay) : PureOk P (.pick c x y) (vPick ac ax ay) := by
  intro tm ret r h
  obtain ⟨b, e, h⟩ := onBool_some h
  cases b with
  | true =>
    rw [show (Bool.rec (motive := fun _ => R) (lookK (ay tm) ret) (lookK (ax tm) ret) true) = lookK (ax tm) ret from rfl, lookK_eq] at h
    refine ⟨_, h, fun ρ ce he => ⟨_, he x (by simp [Op.operands]) ax hx, fun O w hO => ?_⟩⟩
    have := (ev1 he hc (by simp [Op.operands]) e).bool
    simp [execOp, hO, this, asBool]
  | false =>
    rw [show (Bool.rec (motive := fun _ => R) (lookK (ay tm) ret) (lookK (ax tm) ret) false) = lookK (ay tm) ret from rfl, lookK_eq] at h
    refine ⟨_, h, fun ρ ce he => ⟨_, he y (by simp [Op.operands]) ay hy, fun O w hO => ?_⟩⟩
    have := (ev1 he hc (by simp [Op.operands]) e).bool
    simp [execOp, hO, this, asBool]

/-! ### Whole numbers -/
theorem pure_int2 (op : BinOp) (hx : opd x = some ax) (hy : opd y = some ay) (f : IntKind → Int → Int → (AV → R) → R) (g : IntKind → Int → Int → Option AV)
    (po : POp) (hpo : ∀ tm ret, po tm ret = int2 (ax tm) (ay tm) fun k a b => f k a b ret)
    (hf : ∀ k a b ret r, f k a b ret = some r → ∃ v, g k a b = some v ∧ ret v = some r)
    (hg : ∀ k a b v, g k a b = some v → ∃ cv, (∀ ρ, VR ρ v cv) ∧ ∀ w, (binOp op t (.int k a) (.int k b)).run P w = .ok cv w) :
    PureOk P (.binOp op t x y t2) po := by
  intro tm ret r h
  rw [hpo] at h
  obtain ⟨k, a, b, e1, e2, h⟩ := int2_some h
  obtain ⟨v, hv, h⟩ := hf _ _ _ _ _ h
  obtain ⟨cv, hc, hr⟩ := hg _ _ _ _ hv
  refine ⟨v, h, fun ρ ce he => ⟨cv, hc ρ, fun O w hO => ?_⟩⟩
  have h1 := (ev1 he hx (by simp [Op.operands]) e1).int
  have h2 := (ev1 he hy (by simp [Op.operands]) e2).int
  have hq : (eqGuard op t x y (.int k a) (.int k b)).run P w = .ok () w := by unfold eqGuard; cases op <;> rfl
  simp [execOp, hO, h1, h2, hq, hr w]

variable (hx : opd x = some ax) (hy : opd y = some ay)
include hx hy

theorem pure_add : PureOk P (.binOp .add t x y t2) (vAdd ax ay) :=
  pure_int2 .add hx hy (fun k a b ret => retI k (addI a b) ret) (fun k a b => some (.s (.int k (k.wrap (a + b))))) _ (fun _ _ => rfl)
    (fun k a b ret r h => by rw [retI_eq, addI_eq] at h; exact ⟨_, rfl, h⟩) (fun k a b v h => by cases h; exact ⟨_, fun _ => .s (.int _ _), fun w => by simp [binOp, Op.intArith]⟩)
theorem pure_sub : PureOk P (.binOp .sub t x y t2) (vSub ax ay) :=
  pure_int2 .sub hx hy (fun k a b ret => retI k (subI a b) ret) (fun k a b => some (.s (.int k (k.wrap (a - b))))) _ (fun _ _ => rfl)
    (fun k a b ret r h => by rw [retI_eq, subI_eq] at h; exact ⟨_, rfl, h⟩) (fun k a b v h => by cases h; exact ⟨_, fun _ => .s (.int _ _), fun w => by simp [binOp, Op.intArith]⟩)
theorem pure_mul : PureOk P (.binOp .mul t x y t2) (vMul ax ay) :=
  pure_int2 .mul hx hy (fun k a b ret => retI k (mulI a b) ret) (fun k a b => some (.s (.int k (k.wrap (a * b))))) _ (fun _ _ => rfl)
    (fun k a b ret r h => by rw [retI_eq, mulI_eq] at h; exact ⟨_, rfl, h⟩) (fun k a b v h => by cases h; exact ⟨_, fun _ => .s (.int _ _), fun w => by simp [binOp, Op.intArith]⟩)

omit hx hy in
theorem natDiv_quo (a b : Int) : natDiv a b Nat.div Int.tdiv = a.tdiv b := by cases a <;> cases b <;> rfl
omit hx hy in
theorem natDiv_rem (a b : Int) : natDiv a b Nat.mod Int.tmod = a.tmod b := by cases a <;> cases b <;> rfl

theorem pure_quo : PureOk P (.binOp .quo t x y t2) (vQuo ax ay) :=
  pure_int2 .quo hx hy (fun k a b ret => iteR (eqI b 0) none (retI k (natDiv a b Nat.div Int.tdiv) ret)) (fun k a b => if b = 0 then none else some (.s (.int k (k.wrap (a.tdiv b))))) _ (fun _ _ => rfl)
    (fun k a b ret r h => by
      rw [retI_eq, eqI_eq, iteR_eq, natDiv_quo] at h
      by_cases hb : b = 0
      · subst hb; simp at h
      · simp [hb] at h ⊢; exact h)
    (fun k a b v h => by
      by_cases hb : b = 0
      · simp [hb] at h
      · simp [hb] at h; subst h; exact ⟨_, fun _ => .s (.int _ _), fun w => by simp [binOp, Op.intDiv, hb]⟩)
theorem pure_rem : PureOk P (.binOp .rem t x y t2) (vRem ax ay) :=
  pure_int2 .rem hx hy (fun k a b ret => iteR (eqI b 0) none (forceI (natDiv a b Nat.mod Int.tmod) fun z => ret (.s (.int k z)))) (fun k a b => if b = 0 then none else some (.s (.int k (a.tmod b)))) _ (fun _ _ => rfl)
    (fun k a b ret r h => by
      rw [forceI_eq, eqI_eq, iteR_eq, natDiv_rem] at h
      by_cases hb : b = 0
      · subst hb; simp at h
      · simp [hb] at h ⊢; exact h)
    (fun k a b v h => by
      by_cases hb : b = 0
      · simp [hb] at h
      · simp [hb] at h; subst h; exact ⟨_, fun _ => .s (.int _ _), fun w => by simp [binOp, Op.intDiv, hb]⟩)
theorem pure_eqI : PureOk P (.binOp .eql t x y t2) (vEqI ax ay) :=
  pure_int2 .eql hx hy (fun _ a b ret => retB (eqI a b) ret) (fun _ a b => some (.s (.bool (a == b)))) _ (fun _ _ => rfl)
    (fun k a b ret r h => by rw [retB_eq, eqI_eq] at h; exact ⟨_, rfl, h⟩) (fun k a b v h => by cases h; exact ⟨_, fun _ => .s (.bool _), fun w => by simp [binOp, Op.intCmp]⟩)
theorem pure_neI : PureOk P (.binOp .neq t x y t2) (vNeI ax ay) :=
  pure_int2 .neq hx hy (fun _ a b ret => retB (notB (eqI a b)) ret) (fun _ a b => some (.s (.bool (a != b)))) _ (fun _ _ => rfl)
    (fun k a b ret r h => by rw [retB_eq, eqI_eq, notB_eq] at h; exact ⟨_, rfl, h⟩) (fun k a b v h => by cases h; exact ⟨_, fun _ => .s (.bool _), fun w => by simp [binOp, Op.intCmp]⟩)
theorem pure_lt : PureOk P (.binOp .lss t x y t2) (vLt ax ay) :=
  pure_int2 .lss hx hy (fun _ a b ret => retB (ltI a b) ret) (fun _ a b => some (.s (.bool (decide (a < b))))) _ (fun _ _ => rfl)
    (fun k a b ret r h => by rw [retB_eq, ltI_eq] at h; exact ⟨_, rfl, h⟩) (fun k a b v h => by cases h; exact ⟨_, fun _ => .s (.bool _), fun w => by simp [binOp, Op.intCmp]⟩)
omit hx hy in
theorem not_lt_dec (a b : Int) : (!decide (b < a)) = decide (a ≤ b) := by
  by_cases h : b < a
  · rw [decide_eq_true h, decide_eq_false (by omega)]; rfl
  · rw [decide_eq_false h, decide_eq_true (by omega)]; rfl
theorem pure_le : PureOk P (.binOp .leq t x y t2) (vLe ax ay) :=
  pure_int2 .leq hx hy (fun _ a b ret => retB (notB (ltI b a)) ret) (fun _ a b => some (.s (.bool (decide (a ≤ b))))) _ (fun _ _ => rfl)
    (fun k a b ret r h => by rw [retB_eq, ltI_eq, notB_eq, not_lt_dec] at h; exact ⟨_, rfl, h⟩) (fun k a b v h => by cases h; exact ⟨_, fun _ => .s (.bool _), fun w => by simp [binOp, Op.intCmp]⟩)
theorem pure_gt : PureOk P (.binOp .gtr t x y t2) (vGt ax ay) :=
  pure_int2 .gtr hx hy (fun _ a b ret => retB (ltI b a) ret) (fun _ a b => some (.s (.bool (decide (b < a))))) _ (fun _ _ => rfl)
    (fun k a b ret r h => by rw [retB_eq, ltI_eq] at h; exact ⟨_, rfl, h⟩) (fun k a b v h => by cases h; exact ⟨_, fun _ => .s (.bool _), fun w => by simp [binOp, Op.intCmp]⟩)
theorem pure_ge : PureOk P (.binOp .geq t x y t2) (vGe ax ay) :=
  pure_int2 .geq hx hy (fun _ a b ret => retB (notB (ltI a b)) ret) (fun _ a b => some (.s (.bool (decide (b ≤ a))))) _ (fun _ _ => rfl)
    (fun k a b ret r h => by rw [retB_eq, ltI_eq, notB_eq, not_lt_dec] at h; exact ⟨_, rfl, h⟩) (fun k a b v h => by cases h; exact ⟨_, fun _ => .s (.bool _), fun w => by simp [binOp, Op.intCmp]⟩)

omit hx hy in
theorem fits_lt {k : IntKind} {n : Nat} (h : fits k n = true) : n < 2 ^ k.bits := by
  have h1 : n < lim k := Nat.le_of_ble_eq_true h
  cases k <;> simp only [lim] at h1 <;> simp only [IntKind.bits] <;> omega
omit hx hy in
theorem ofInt_toNat {w n : Nat} (h : n < 2 ^ w) : (BitVec.ofInt w (n : Int)).toNat = n := by
  rw [BitVec.ofInt_natCast, BitVec.toNat_ofNat, Nat.mod_eq_of_lt h]
omit hx hy in
theorem andNot_eq {w : Nat} (a b : BitVec w) : a &&& ~~~b = a ^^^ (a &&& b) := by
  ext i hi
  simp only [BitVec.getElem_and, BitVec.getElem_not, BitVec.getElem_xor]
  cases a[i] <;> cases b[i] <;> rfl

theorem pure_bits (op : BinOp) (f : Nat → Nat → Nat) (hop : ∀ (k : IntKind) m n, fits k m = true → fits k n = true → ∀ w, (binOp op t (.int k (m : Int)) (.int k (n : Int))).run P w = .ok (.int k (k.wrap (f m n : Nat))) w) :
    PureOk P (.binOp op t x y t2) (vBits f ax ay) :=
  pure_int2 op hx hy (fun k a b ret => nats2 a b fun m n => iteR (andB (fits k m) (fits k n)) (retN k (f m n) ret) none)
    (fun k a b => match a, b with
      | .ofNat m, .ofNat n => if fits k m = true ∧ fits k n = true then some (.s (.int k (k.wrap (f m n : Nat)))) else none
      | _, _ => none) _ (fun _ _ => rfl)
    (fun k a b ret r h => by
      obtain ⟨m, n, rfl, rfl, h⟩ := nats2_some h
      obtain ⟨h1, h⟩ := guard_some h
      rw [andB_eq, Bool.and_eq_true] at h1
      rw [retN_eq] at h
      exact ⟨_, by simp only [h1, and_self, if_true], h⟩)
    (fun k a b v h => by
      split at h
      · split at h
        · rename_i hf; cases h; exact ⟨_, fun _ => .s (.int _ _), hop k _ _ hf.1 hf.2⟩
        · simp at h
      · simp at h)
theorem pure_and : PureOk P (.binOp .and t x y t2) (vAnd ax ay) := pure_bits hx hy .and Nat.land fun k m n hm hn w => by
  simp only [binOp, Op.intBits, BitVec.toNat_and, ofInt_toNat (fits_lt hm), ofInt_toNat (fits_lt hn)]; simp
theorem pure_or : PureOk P (.binOp .or t x y t2) (vOr ax ay) := pure_bits hx hy .or Nat.lor fun k m n hm hn w => by
  simp only [binOp, Op.intBits, BitVec.toNat_or, ofInt_toNat (fits_lt hm), ofInt_toNat (fits_lt hn)]; simp
theorem pure_xor : PureOk P (.binOp .xor t x y t2) (vXor ax ay) := pure_bits hx hy .xor Nat.xor fun k m n hm hn w => by
  simp only [binOp, Op.intBits, BitVec.toNat_xor, ofInt_toNat (fits_lt hm), ofInt_toNat (fits_lt hn)]; simp
theorem pure_andNot : PureOk P (.binOp .andNot t x y t2) (vAndNot ax ay) := pure_bits hx hy .andNot (fun a b => Nat.xor a (Nat.land a b)) fun k m n hm hn w => by
  simp only [binOp, Op.intBits, andNot_eq, BitVec.toNat_xor, BitVec.toNat_and, ofInt_toNat (fits_lt hm), ofInt_toNat (fits_lt hn)]; simp

theorem pure_shl : PureOk P (.binOp .shl t x y t2) (vShl ax ay) := by
  intro tm ret r h
  obtain ⟨k, a, e1, h⟩ := onInt_some h
  obtain ⟨k', b, e2, h⟩ := onInt_some h
  obtain ⟨m, n, rfl, rfl, h⟩ := nats2_some h
  obtain ⟨_, h⟩ := guard_some h
  rw [retN_eq] at h
  refine ⟨_, h, fun ρ ce he => ⟨_, .s (.int _ _), fun O w hO => ?_⟩⟩
  have h1 := (ev1 he hx (by simp [Op.operands]) e1).int
  have h2 := (ev1 he hy (by simp [Op.operands]) e2).int
  have hs : ((Nat.shiftLeft m (Nat.min n k.bits) : Nat) : Int) = (m : Int) * 2 ^ (min n k.bits) := by
    rw [show Nat.shiftLeft m (Nat.min n k.bits) = m * 2 ^ (min n k.bits) from Nat.shiftLeft_eq _ _]; simp
  rw [hs]
  simp [execOp, hO, h1, h2, eqGuard, binOp, Op.shift]
  intro hneg; omega
theorem pure_shr : PureOk P (.binOp .shr t x y t2) (vShr ax ay) := by
  intro tm ret r h
  obtain ⟨k, a, e1, h⟩ := onInt_some h
  obtain ⟨k', b, e2, h⟩ := onInt_some h
  obtain ⟨m, n, rfl, rfl, h⟩ := nats2_some h
  obtain ⟨_, h⟩ := guard_some h
  rw [forceN_eq] at h
  refine ⟨_, h, fun ρ ce he => ⟨_, .s (.int _ _), fun O w hO => ?_⟩⟩
  have h1 := (ev1 he hx (by simp [Op.operands]) e1).int
  have h2 := (ev1 he hy (by simp [Op.operands]) e2).int
  have hs : Int.ofNat (Nat.shiftRight m (Nat.min n k.bits)) = (m : Int).fdiv (2 ^ (min n k.bits)) := by
    have : Nat.shiftRight m (Nat.min n k.bits) = m / 2 ^ (min n k.bits) := Nat.shiftRight_eq_div_pow _ _
    rw [this, show ((2 : Int) ^ (min n k.bits)) = ((2 ^ (min n k.bits) : Nat) : Int) by simp, Int.fdiv_eq_ediv_of_nonneg _ (Int.natCast_nonneg _)]
    simp
  rw [hs]
  simp [execOp, hO, h1, h2, eqGuard, binOp, Op.shift]
  intro hneg; omega

/-! ### Floating point -/
theorem pure_arF (op : BinOp) (hop : op = .add ∨ op = .sub ∨ op = .mul ∨ op = .quo) : PureOk P (.binOp op t x y t2) (vArF op ax ay) := by
  intro tm ret r h
  obtain ⟨a, e1, h⟩ := onFlt_some h
  obtain ⟨b, e2, h⟩ := onFlt_some h
  obtain ⟨n, hn, h⟩ := someN_some h
  rw [retF_eq] at h
  refine ⟨_, h, fun ρ ce he => ⟨_, .s (.flt _), fun O w hO => ?_⟩⟩
  have h1 := (ev1 he hx (by simp [Op.operands]) e1).flt
  have h2 := (ev1 he hy (by simp [Op.operands]) e2).flt
  rcases hop with rfl | rfl | rfl | rfl <;> simp only [arithF] at hn <;> simp [execOp, hO, h1, h2, eqGuard, binOp, Op.floatArith, hn]
theorem pure_cmF (op : BinOp) (hop : op = .eql ∨ op = .neq ∨ op = .lss ∨ op = .leq ∨ op = .gtr ∨ op = .geq) : PureOk P (.binOp op t x y t2) (vCmF op ax ay) := by
  intro tm ret r h
  obtain ⟨a, e1, h⟩ := onFlt_some h
  obtain ⟨b, e2, h⟩ := onFlt_some h
  rw [retB_eq] at h
  refine ⟨_, h, fun ρ ce he => ⟨_, .s (.bool _), fun O w hO => ?_⟩⟩
  have h1 := (ev1 he hx (by simp [Op.operands]) e1).flt
  have h2 := (ev1 he hy (by simp [Op.operands]) e2).flt
  rcases hop with rfl | rfl | rfl | rfl | rfl | rfl <;> simp [execOp, hO, h1, h2, eqGuard, binOp, Op.floatCmp, cmpF]
theorem pure_arC (op : BinOp) (hop : op = .add ∨ op = .sub) : PureOk P (.binOp op t x y t2) (vArC op ax ay) := by
  intro tm ret r h
  obtain ⟨a, b, e1, h⟩ := onCpx_some h
  obtain ⟨c, d, e2, h⟩ := onCpx_some h
  obtain ⟨n, hn, h⟩ := someN_some h
  obtain ⟨m, hm, h⟩ := someN_some h
  rw [retC_eq] at h
  refine ⟨_, h, fun ρ ce he => ⟨_, .s (.cpx _ _), fun O w hO => ?_⟩⟩
  have h1 := (ev1 he hx (by simp [Op.operands]) e1).cpx
  have h2 := (ev1 he hy (by simp [Op.operands]) e2).cpx
  rcases hop with rfl | rfl <;> simp only [arithF] at hn hm <;> simp [execOp, hO, h1, h2, eqGuard, binOp, Op.complexOp, Op.Complex.arith, Op.floatArith, hn, hm]
theorem pure_mulC : PureOk P (.binOp .mul t x y t2) (vMulC ax ay) := by
  intro tm ret r h
  obtain ⟨a, b, e1, h⟩ := onCpx_some h
  obtain ⟨c, d, e2, h⟩ := onCpx_some h
  obtain ⟨n1, hn1, h⟩ := someN_some h
  obtain ⟨n2, hn2, h⟩ := someN_some h
  obtain ⟨n3, hn3, h⟩ := someN_some h
  obtain ⟨n4, hn4, h⟩ := someN_some h
  obtain ⟨n5, hn5, h⟩ := someN_some h
  obtain ⟨n6, hn6, h⟩ := someN_some h
  rw [retC_eq] at h
  refine ⟨_, h, fun ρ ce he => ⟨_, .s (.cpx _ _), fun O w hO => ?_⟩⟩
  have h1 := (ev1 he hx (by simp [Op.operands]) e1).cpx
  have h2 := (ev1 he hy (by simp [Op.operands]) e2).cpx
  simp only [arithF] at hn1 hn2 hn3 hn4 hn5 hn6
  simp [execOp, hO, h1, h2, eqGuard, binOp, Op.complexOp, Op.Complex.conv, Op.Complex.product, Op.Complex.mul, Op.Complex.sub, Op.Complex.add, Op.Complex.arith, Op.floatArith, hn1, hn2, hn3, hn4, hn5, hn6]
theorem pure_eqC : PureOk P (.binOp .eql t x y t2) (vEqC ax ay) := by
  intro tm ret r h
  obtain ⟨a, b, e1, h⟩ := onCpx_some h
  obtain ⟨c, d, e2, h⟩ := onCpx_some h
  rw [retB_eq, andB_eq] at h
  refine ⟨_, h, fun ρ ce he => ⟨_, .s (.bool _), fun O w hO => ?_⟩⟩
  have h1 := (ev1 he hx (by simp [Op.operands]) e1).cpx
  have h2 := (ev1 he hy (by simp [Op.operands]) e2).cpx
  simp only [cmpF]
  cases hc : (FloatKind.f64.format.order a c == some .eq) <;> simp [execOp, hO, h1, h2, eqGuard, binOp, Op.complexOp, Op.Complex.cmp, Op.floatCmp, asBool, hc]
theorem pure_neC : PureOk P (.binOp .neq t x y t2) (vNeC ax ay) := by
  intro tm ret r h
  obtain ⟨a, b, e1, h⟩ := onCpx_some h
  obtain ⟨c, d, e2, h⟩ := onCpx_some h
  rw [retB_eq, andB_eq, notB_eq] at h
  refine ⟨_, h, fun ρ ce he => ⟨_, .s (.bool _), fun O w hO => ?_⟩⟩
  have h1 := (ev1 he hx (by simp [Op.operands]) e1).cpx
  have h2 := (ev1 he hy (by simp [Op.operands]) e2).cpx
  simp only [cmpF]
  cases hc : (FloatKind.f64.format.order a c == some .eq) <;> simp [execOp, hO, h1, h2, eqGuard, binOp, Op.complexOp, Op.Complex.cmp, Op.floatCmp, asBool, hc]
end
end Go.Bb
