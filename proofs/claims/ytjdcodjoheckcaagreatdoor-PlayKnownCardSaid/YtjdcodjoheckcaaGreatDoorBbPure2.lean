/-
  The operations that look at operands alone, the second part.
-/
import Derived.Test.YtjdcodjoheckcaaGreatDoorBbPure
import Derived.Laws.StructEq
namespace Go.Bb
variable {P : Program}

theorem run_underlying' {t : TypeId} {d : TypeDesc} (h : P.underlying t = some d) (w : World) : (underlying t).run P w = .ok d w := by simp [underlying, h]
theorem run_sizeOf' {t : TypeId} {n : Nat} (h : sizeT P t = some n) (w : World) : (sizeOf t).run P w = .ok n w := by
  unfold sizeT at h
  simp only [Option.map_eq_some_iff] at h
  obtain ⟨i, hi, rfl⟩ := h
  simp [sizeOf, typeInfo, hi]
theorem run_isAgg' {t : TypeId} {g : Bool} (h : aggT P t = some g) (w : World) : (isAgg t).run P w = .ok g w := by
  unfold aggT at h
  split at h <;> first | (cases h; simp [isAgg, underlying, *]; done) | (simp at h; done)

section
variable {x y c : Operand} {ax ay ac : Opd} {t t2 : TypeId}

/-- what calls of builtins come to -/
theorem run_builtin {ce : Operand → Value} {O : Oper} {b : Builtin} {c : Call} (hO : O.op = .call c) (hb : c.callee = .builtin b) (w : World) :
    ∃ consts, (execOp ce O).run P w = (builtin b c.argTypes O.type consts (c.args.map ce)).run P w :=
  ⟨_, by simp only [execOp, hO, resolve, hb, Sem.run_bind, Sem.run_pure, Result.andThen_ok, invoke]; rfl⟩

variable {args : Array Operand} {ats : Array TypeId}

theorem pure_cpx (hx : opd x = some ax) (hy : opd y = some ay) (ha : args.toList = [x, y]) : PureOk P (.call ⟨.builtin .complex, args, ats⟩) (vCpx ax ay) := by
  obtain rfl : args = #[x, y] := by cases args; simp_all
  intro tm ret r h
  obtain ⟨a, e1, h⟩ := onFlt_some h
  obtain ⟨b, e2, h⟩ := onFlt_some h
  refine ⟨_, h, fun ρ ce he => ⟨_, .s (.cpx _ _), fun O w hO => ?_⟩⟩
  have h1 := (ev1 he hx (by simp [Op.operands, Call.operands]) e1).flt
  have h2 := (ev1 he hy (by simp [Op.operands, Call.operands]) e2).flt
  obtain ⟨cs, hrun⟩ := run_builtin (P := P) (ce := ce) hO rfl w
  have hq : Builtin.complex_ ats O.type #[.float .f64 a, .float .f64 b] = pure (.complex .f64 a b) := rfl
  rw [hrun]; simp [builtin, h1, h2, hq]
theorem pure_re (hx : opd x = some ax) (ha : args.toList = [x]) : PureOk P (.call ⟨.builtin .real, args, ats⟩) (vRe ax) := by
  obtain rfl : args = #[x] := by cases args; simp_all
  intro tm ret r h
  obtain ⟨a, b, e1, h⟩ := onCpx_some h
  refine ⟨_, h, fun ρ ce he => ⟨_, .s (.flt _), fun O w hO => ?_⟩⟩
  have h1 := (ev1 he hx (by simp [Op.operands, Call.operands]) e1).cpx
  obtain ⟨cs, hrun⟩ := run_builtin (P := P) (ce := ce) hO rfl w
  have hq : Builtin.real_ ats O.type #[.complex .f64 a b] = pure (.float .f64 a) := rfl
  rw [hrun]; simp [builtin, h1, hq]
theorem pure_im (hx : opd x = some ax) (ha : args.toList = [x]) : PureOk P (.call ⟨.builtin .imag, args, ats⟩) (vIm ax) := by
  obtain rfl : args = #[x] := by cases args; simp_all
  intro tm ret r h
  obtain ⟨a, b, e1, h⟩ := onCpx_some h
  refine ⟨_, h, fun ρ ce he => ⟨_, .s (.flt _), fun O w hO => ?_⟩⟩
  have h1 := (ev1 he hx (by simp [Op.operands, Call.operands]) e1).cpx
  obtain ⟨cs, hrun⟩ := run_builtin (P := P) (ce := ce) hO rfl w
  have hq : Builtin.imag_ ats O.type #[.complex .f64 a b] = pure (.float .f64 b) := rfl
  rw [hrun]; simp [builtin, h1, hq]

theorem pure_not (hx : opd x = some ax) : PureOk P (.unOp .not t x) (vNot ax) := by
  intro tm ret r h
  obtain ⟨b, e1, h⟩ := onBool_some h
  rw [retB_eq, notB_eq] at h
  refine ⟨_, h, fun ρ ce he => ⟨_, .s (.bool _), fun O w hO => ?_⟩⟩
  have h1 := (ev1 he hx (by simp [Op.operands]) e1).bool
  simp [execOp, hO, h1, Op.unary]
theorem pure_negI (hx : opd x = some ax) : PureOk P (.unOp .neg t x) (vNegI ax) := by
  intro tm ret r h
  obtain ⟨k, n, e1, h⟩ := onInt_some h
  rw [retI_eq, subI_eq] at h
  refine ⟨_, h, fun ρ ce he => ⟨_, .s (.int _ _), fun O w hO => ?_⟩⟩
  have h1 := (ev1 he hx (by simp [Op.operands]) e1).int
  simp [execOp, hO, h1, Op.unary, Op.intArith]
theorem pure_negF (hx : opd x = some ax) : PureOk P (.unOp .neg t x) (vNegF ax) := by
  intro tm ret r h
  obtain ⟨n, e1, h⟩ := onFlt_some h
  rw [retF_eq] at h
  refine ⟨_, h, fun ρ ce he => ⟨_, .s (.flt _), fun O w hO => ?_⟩⟩
  have h1 := (ev1 he hx (by simp [Op.operands]) e1).flt
  simp [execOp, hO, h1, Op.unary]
theorem pure_negC (hx : opd x = some ax) : PureOk P (.unOp .neg t x) (vNegC ax) := by
  intro tm ret r h
  obtain ⟨n, m, e1, h⟩ := onCpx_some h
  rw [retC_eq] at h
  refine ⟨_, h, fun ρ ce he => ⟨_, .s (.cpx _ _), fun O w hO => ?_⟩⟩
  have h1 := (ev1 he hx (by simp [Op.operands]) e1).cpx
  simp [execOp, hO, h1, Op.unary]

variable {src dst : TypeId}
theorem pure_i2i {k : IntKind} (hd : P.underlying dst = some (.int k)) {d : TypeDesc} (hs : P.underlying src = some d) (hx : opd x = some ax) : PureOk P (.convert src dst x) (vI2I k ax) := by
  intro tm ret r h
  obtain ⟨k', n, e1, h⟩ := onInt_some h
  rw [retI_eq] at h
  refine ⟨_, h, fun ρ ce he => ⟨_, .s (.int _ _), fun O w hO => ?_⟩⟩
  have h1 := (ev1 he hx (by simp [Op.operands]) e1).int
  simp [execOp, hO, h1, convert, run_underlying' hd, run_underlying' hs, Conv.intToInt]
theorem pure_i2f (hd : P.underlying dst = some (.float .f64)) {d : TypeDesc} (hs : P.underlying src = some d) (hx : opd x = some ax) : PureOk P (.convert src dst x) (vI2F ax) := by
  intro tm ret r h
  obtain ⟨k', n, e1, h⟩ := onInt_some h
  rw [retF_eq] at h
  refine ⟨_, h, fun ρ ce he => ⟨_, .s (.flt _), fun O w hO => ?_⟩⟩
  have h1 := (ev1 he hx (by simp [Op.operands]) e1).int
  simp [execOp, hO, h1, convert, run_underlying' hd, run_underlying' hs, Conv.intToFloat]
theorem pure_f2i {k : IntKind} (hd : P.underlying dst = some (.int k)) {d : TypeDesc} (hs : P.underlying src = some d) (hx : opd x = some ax) : PureOk P (.convert src dst x) (vF2I k ax) := by
  intro tm ret r h
  obtain ⟨b, e1, h⟩ := onFlt_some h
  cases hz : (FloatKind.f64.decode b).toInt .zero with
  | none => rw [hz] at h; exact none_some h
  | some n =>
    rw [hz] at h
    have h' : (forceI n fun n => iteR (andB (notB (ltI n k.min)) (notB (ltI k.max n))) (ret (.s (.int k n))) none) = some r := h
    rw [forceI_eq] at h'
    obtain ⟨hb, h'⟩ := guard_some h'
    rw [andB_eq, notB_eq, notB_eq, ltI_eq, ltI_eq, Bool.and_eq_true] at hb
    simp at hb
    refine ⟨_, h', fun ρ ce he => ⟨_, .s (.int _ _), fun O w hO => ?_⟩⟩
    have h1 := (ev1 he hx (by simp [Op.operands]) e1).flt
    simp [execOp, hO, h1, convert, run_underlying' hd, run_underlying' hs, Conv.floatToInt, hz, hb]

/-- Go's functions without a body that the abstract machine answers -/
def ExtOk (P : Program) : Prop := ∀ (f : Nat) (fn : Func), P.funcs[f]? = some fn → fn.body.isNone = true →
  (fn.name = "math.archFloor" → ∀ (x : Value) (w : World), (callFunc f #[x]).run P w = ((Extern.MathFloor.toIntegral "math.archFloor" .down #[x]).run P w).andThen fun v w => .ok (.value v) w) ∧
  (fn.name = "math.archTrunc" → ∀ (x : Value) (w : World), (callFunc f #[x]).run P w = ((Extern.MathFloor.toIntegral "math.archTrunc" .zero #[x]).run P w).andThen fun v w => .ok (.value v) w)

theorem pure_ext {f : Nat} {way : Ieee.Toward} {nm : String} (hrun : ∀ (x : Value) (w : World), (callFunc f #[x]).run P w = ((Extern.MathFloor.toIntegral nm way #[x]).run P w).andThen fun v w => .ok (.value v) w)
    (hlt : f < 1000000) (hx : opd x = some ax) (ha : args.toList = [x]) : PureOk P (.call ⟨.value (.func f), args, ats⟩) (vExt way ax) := by
  obtain rfl : args = #[x] := by cases args; simp_all
  intro tm ret r h
  obtain ⟨b, e1, h⟩ := onFlt_some h
  obtain ⟨n, hn, h⟩ := someN_some h
  rw [retF_eq] at h
  refine ⟨_, h, fun ρ ce he => ⟨_, .s (.flt _), fun O w hO => ?_⟩⟩
  have h1 := (ev1 he hx (by simp [Op.operands, Call.operands]) e1).flt
  have h0 := he (.func f) (by simp [Op.operands, Call.operands]) (kv (.s (.fn f []))) (by simp [opd, hlt])
  obtain ⟨_, vs, hv, hc⟩ | ⟨_, _, _, _, _, h, _⟩ := VR.fn h0
  case inr => cases h
  obtain rfl : vs = #[] := by cases vs with | mk l => cases hc; rfl
  have ht : (Extern.MathFloor.toIntegral nm way #[.float .f64 b]).run P w = .ok (.float .f64 n) w := by
    have he : Extern.MathFloor.toIntegral nm way #[.float .f64 b] = match FloatKind.f64.decode b with
      | .nan s t => if FloatKind.f64.format.quiet t = t then pure (.float .f64 b) else do
          let kept ← choose (.extern "math.Floor,Ceil,Trunc,RoundToEven.signallingNaN kept" 2)
          pure (.float .f64 (if kept == 1 then b else FloatKind.f64.encode (.nan s (FloatKind.f64.format.quiet t))))
      | d => pure (.float .f64 (FloatKind.f64.encode (d.integral way))) := rfl
    rw [he]
    unfold extF at hn
    cases hq : FloatKind.f64.decode b <;> rw [hq] at hn <;> simp at hn <;> simp [hn]
  simp [execOp, hO, resolve, hv, Deferred.ofValue, invoke, h1, hrun, ht]

theorem pure_nil (hx : opd x = some ax) : PureOk P (.nilCheck x) (vNil ax) := by
  intro tm ret r h
  cases e1 : ax tm with
  | s v =>
    unfold vNil at h; rw [e1] at h
    cases v <;> first | exact none_some h | skip
    · refine ⟨_, h, fun ρ ce he => ?_⟩
      have h1 := ev1 he hx (by simp [Op.operands]) e1
      obtain ⟨l, hl, hv⟩ := h1.ptr
      exact ⟨_, h1, fun O w hO => by simp [execOp, hO, hv]⟩
    · refine ⟨_, h, fun ρ ce he => ?_⟩
      have h1 := ev1 he hx (by simp [Op.operands]) e1
      obtain ⟨g, fs, vs, hv⟩ := h1.fn'
      exact ⟨_, h1, fun O w hO => by simp [execOp, hO, hv]⟩
  | agg => unfold vNil at h; rw [e1] at h; exact none_some h
  | tup => unfold vNil at h; rw [e1] at h; exact none_some h

theorem capsK_some {tm : Tm} {l : List Opd} : ∀ {k : List (Path × Nat) → R} {r : AV × AH}, capsK l tm k = some r → ∃ cs, k cs = some r ∧ All2 (fun (a : Opd) (c : Path × Nat) => a tm = .s (.ptr c.1 c.2)) l cs := by
  induction l with
  | nil => intro k r h; exact ⟨[], h, .nil⟩
  | cons x l ih =>
    intro k r h
    obtain ⟨id, off, e, h⟩ := onPtr_some (k := fun id off => capsK l tm fun r => k ((id, off) :: r)) h
    obtain ⟨cs, h, hc⟩ := ih h
    exact ⟨_, h, .cons e hc⟩

theorem pure_bnd {f : Nat} {first caps : Array Operand} {x : Operand} (hc : opds caps.toList = some []) (hf : first.toList = [x]) (hx : opd x = some ax) : PureOk P (.makeFunc (.func f) first caps) (vBnd f ax) := by
  obtain rfl : first = #[x] := by cases first; simp_all
  obtain rfl : caps = #[] := by
    obtain ⟨l⟩ := caps
    cases l with
    | nil => rfl
    | cons a l =>
      simp only [opds] at hc
      split at hc <;> cases hc
  intro tm ret r h
  obtain ⟨id, off, e, h1⟩ := onPtr_some h
  refine ⟨_, h1, fun ρ ce he => ?_⟩
  obtain ⟨l, hl, hv⟩ := (ev1 he hx (by simp [Op.operands]) e).ptr
  exact ⟨.func (.func f) #[ce x] #[], by rw [hv]; exact .s (.bnd hl), fun O w hO => by simp [execOp, hO, Instr.makeFunc]⟩

theorem pure_fn {f : Nat} {first caps : Array Operand} {cs : List Opd} (hlt : f < 1000000) (hf : first.isEmpty = true) (hc : opds caps.toList = some cs) : PureOk P (.makeFunc (.func f) first caps) (vFn f cs) := by
  obtain rfl : first = #[] := by simpa using hf
  intro tm ret r h
  obtain ⟨l, h, hl⟩ := capsK_some h
  refine ⟨_, h, fun ρ ce he => ⟨.func (.func f) #[] (caps.map ce), .s (.fn hlt ?_), fun O w hO => by simp [execOp, hO, Instr.makeFunc]⟩⟩
  have hr := opds_rel (ρ := ρ) (tm := tm) (ce := ce) hc (fun x hx ax hax => he x (by simpa [Op.operands] using hx) ax hax)
  have key : ∀ {as : List Opd} {xs : List Operand} {ps : List (Path × Nat)}, All2 (fun (ax : Opd) x => VR ρ (ax tm) (ce x)) as xs → All2 (fun (a : Opd) (c : Path × Nat) => a tm = .s (.ptr c.1 c.2)) as ps → All2 (CapR ρ) ps (xs.map ce) := by
    intro as xs ps h1
    induction h1 generalizing ps with
    | nil => intro h2; cases h2; exact .nil
    | cons a _ ih => intro h2; cases h2 with
      | cons b h2 =>
        rw [b] at a
        obtain ⟨lc, hl1, hl2⟩ := a.ptr
        exact .cons ⟨lc, hl1, hl2⟩ (ih h2)
  simpa using key hr hl

theorem at_add (l : Loc) (o n : Nat) : (l.at o).add n = l.at (o + n) := by
  unfold Addr.add Loc.at
  split
  · rename_i h; subst h; rfl
  · simp; omega

theorem pure_fld {fs : Array Field} {f : Nat} {fd : Field} {n : Nat} (hu : P.underlying t = some (.struct fs)) (hf : fs[f]? = some fd) (hs : sizeT P fd.type = some (n + 1)) (hx : opd x = some ax) : PureOk P (.fieldAddr t x f) (vFld fd.offset ax) := by
  intro tm ret r h
  obtain ⟨id, o, e1, h⟩ := onPtr_some h
  rw [forceN_eq] at h
  refine ⟨_, h, fun ρ ce he => ?_⟩
  have h1 := ev1 he hx (by simp [Op.operands]) e1
  obtain ⟨l, hl, hv⟩ := h1.ptr
  refine ⟨_, .s (.ptr hl), fun O w hO => ?_⟩
  simp only [execOp, hO, hv, Instr.fieldAt, Sem.run_bind, run_underlying' hu, Result.andThen_ok, hf, Instr.sureAddr, fieldPlace, Sem.run_pure, run_sizeOf' hs]
  simp [at_add]

theorem run_part {agg : Bool} {off size : Nat} {cs : List SV} {ret : AV → R} {r : AV × AH} (hs : sizeT P t = some size) (hg : aggT P t = some agg) (h : partK agg cs off size ret = some r) :
    ∃ v, ret v = some r ∧ ∀ (ρ : Emb) (ccs : Array Value), All2 (SR ρ) cs ccs.toList → ∃ cv, VR ρ v cv ∧ ∀ w, (part t ccs off).run P w = .ok cv w := by
  cases agg with
  | true =>
    have h' : (wholeS (takeS size (dropS off cs)) fun cs => ret (.agg cs)) = some r := h
    rw [wholeS_eq, takeS_eq, dropS_eq] at h'
    refine ⟨_, h', fun ρ ccs hc => ⟨.agg (ccs.extract off (off + size)), .agg ?_, fun w => ?_⟩⟩
    · have := (hc.drop off).take size
      simpa [Array.toList_extract] using this
    · simp [part, run_isAgg' hg, run_sizeOf' hs]
  | false =>
    have h' : (Option.rec (motive := fun _ => R) none (fun s => ret (.s s)) (nth cs off)) = some r := h
    rw [nth_eq] at h'
    cases hn : cs[off]? with
    | none => rw [hn] at h'; exact none_some h'
    | some s =>
      rw [hn] at h'
      refine ⟨_, h', fun ρ ccs hc => ?_⟩
      obtain ⟨b, hb, hsr⟩ := hc.get hn
      refine ⟨b, .s hsr, fun w => ?_⟩
      have hb' : ccs[off]? = some b := by simpa using hb
      simp [part, run_isAgg' hg, hb']

theorem pure_field {fs : Array Field} {f : Nat} {fd : Field} {s : Nat} {g : Bool} (hu : P.underlying t = some (.struct fs)) (hf : fs[f]? = some fd) (hs : sizeT P fd.type = some s) (hg : aggT P fd.type = some g) (hx : opd x = some ax) : PureOk P (.field t x f) (vField fd.offset s g ax) := by
  intro tm ret r h
  obtain ⟨cs, e1, h⟩ := onAgg_some h
  obtain ⟨v, h, hp⟩ := run_part hs hg h
  refine ⟨_, h, fun ρ ce he => ?_⟩
  obtain ⟨ccs, hv, hc⟩ := (ev1 he hx (by simp [Op.operands]) e1).agg'
  obtain ⟨cv, hcv, hr⟩ := hp ρ ccs hc
  exact ⟨cv, hcv, fun O w hO => by simp [execOp, hO, hv, Instr.field, run_underlying' hu, hf, asAgg, hr]⟩

theorem pure_idxS {e s : Nat} (hu : P.underlying t = some (.slice e)) (hs : sizeT P e = some s) (hx : opd x = some ax) (hy : opd y = some ay) : PureOk P (.indexAddr t x y) (vIdxS s ax ay) := by
  intro tm ret r h
  rcases onSl_some h with ⟨_, h⟩ | ⟨id, off, len, cap, z, e1, h⟩
  · exact none_some h
  obtain ⟨k, n, e2, h⟩ := onNat_some h
  obtain ⟨hb, h⟩ := guard_some h
  rw [forceN_eq] at h
  have hlt : n < len := Nat.le_of_ble_eq_true hb
  refine ⟨_, h, fun ρ ce he => ?_⟩
  obtain ⟨l, m, hl, hv, _⟩ := (ev1 he hx (by simp [Op.operands]) e1).sl
  have h2 := (ev1 he hy (by simp [Op.operands]) e2).int
  refine ⟨_, .s (.ptr hl), fun O w hO => ?_⟩
  have hi : (0 : Int) ≤ Int.ofNat n ∧ Int.ofNat n < (len : Int) := ⟨Int.natCast_nonneg _, by simpa using hlt⟩
  simp only [execOp, hO, hv, h2, Instr.indexAt, asIntOf, Sem.run_bind, Sem.run_pure, Result.andThen_ok, run_underlying' hu]
  simp [run_sizeOf' hs, at_add, hlt]

theorem pure_idxA {e s len : Nat} (hu : P.underlying t = some (.array len e)) (hs : sizeT P e = some s) (hx : opd x = some ax) (hy : opd y = some ay) : PureOk P (.indexAddr t x y) (vIdxA len s ax ay) := by
  intro tm ret r h
  obtain ⟨id, off, e1, h⟩ := onPtr_some h
  obtain ⟨k, n, e2, h⟩ := onNat_some h
  obtain ⟨hb, h⟩ := guard_some h
  rw [forceN_eq] at h
  have hlt : n < len := Nat.le_of_ble_eq_true hb
  refine ⟨_, h, fun ρ ce he => ?_⟩
  obtain ⟨l, hl, hv⟩ := (ev1 he hx (by simp [Op.operands]) e1).ptr
  have h2 := (ev1 he hy (by simp [Op.operands]) e2).int
  refine ⟨_, .s (.ptr hl), fun O w hO => ?_⟩
  simp only [execOp, hO, hv, h2, Instr.indexAt, asIntOf, Sem.run_bind, Sem.run_pure, Result.andThen_ok, run_underlying' hu]
  simp [run_sizeOf' hs, at_add, hlt, Instr.sureAddr]

theorem pure_index {e s len : Nat} {g : Bool} (hu : P.underlying t = some (.array len e)) (hs : sizeT P e = some s) (hg : aggT P e = some g) (hx : opd x = some ax) (hy : opd y = some ay) : PureOk P (.index t x y) (vIndex len s g ax ay) := by
  intro tm ret r h
  obtain ⟨cs, e1, h⟩ := onAgg_some h
  obtain ⟨k, n, e2, h⟩ := onNat_some h
  obtain ⟨hb, h⟩ := guard_some h
  have hlt : n < len := Nat.le_of_ble_eq_true hb
  obtain ⟨v, h, hp⟩ := run_part hs hg h
  refine ⟨_, h, fun ρ ce he => ?_⟩
  obtain ⟨ccs, hv, hc⟩ := (ev1 he hx (by simp [Op.operands]) e1).agg'
  have h2 := (ev1 he hy (by simp [Op.operands]) e2).int
  obtain ⟨cv, hcv, hr⟩ := hp ρ ccs hc
  refine ⟨cv, hcv, fun O w hO => ?_⟩
  have hr' := hr w
  simp only [execOp, hO, hv, h2, Instr.index, asIntOf, Sem.run_bind, Sem.run_pure, Result.andThen_ok, run_underlying' hu]
  simp [run_sizeOf' hs, hlt]
  rw [show n.mul s = n * s from rfl] at hr'
  simp [hr']

theorem pure_extract {i : Nat} (hx : opd x = some ax) : PureOk P (.extract x i) (vExtract ax i) := by
  intro tm ret r h
  cases e1 : ax tm with
  | s => unfold vExtract at h; rw [e1] at h; exact none_some h
  | agg => unfold vExtract at h; rw [e1] at h; exact none_some h
  | tup l =>
    unfold vExtract at h; rw [e1] at h
    have h' : (Option.rec (motive := fun _ => R) none (fun v => tvK v ret) (nth l i)) = some r := h
    rw [nth_eq] at h'
    cases hn : l[i]? with
    | none => rw [hn] at h'; exact none_some h'
    | some v =>
      rw [hn] at h'
      cases v with
      | s v =>
        refine ⟨.s v, h', fun ρ ce he => ?_⟩
        obtain ⟨vs, hv, hc⟩ := (ev1 he hx (by simp [Op.operands]) e1).tup'
        obtain ⟨b, hb, ht⟩ := hc.get hn
        have hb' : vs[i]? = some b := by simpa using hb
        cases ht with
        | s hs => exact ⟨b, .s hs, fun O w hO => by simp [execOp, hO, hv, Instr.extract, hb']⟩
      | agg v =>
        refine ⟨.agg v, h', fun ρ ce he => ?_⟩
        obtain ⟨vs, hv, hc⟩ := (ev1 he hx (by simp [Op.operands]) e1).tup'
        obtain ⟨b, hb, ht⟩ := hc.get hn
        have hb' : vs[i]? = some b := by simpa using hb
        cases ht with
        | agg hs => exact ⟨_, .agg hs, fun O w hO => by simp [execOp, hO, hv, Instr.extract, hb']⟩

theorem pure_len {t : TypeId} {rest : List TypeId} {e : TypeId} (hu : P.underlying t = some (.slice e)) (hx : opd x = some ax) (ha : args.toList = [x]) (ht : ats.toList = t :: rest) : PureOk P (.call ⟨.builtin .len, args, ats⟩) (vLen ax) := by
  obtain rfl : args = #[x] := by cases args; simp_all
  have ht0 : ats[0]? = some t := by rw [← Array.getElem?_toList, ht]; rfl
  intro tm ret r h
  rcases onSl_some h with ⟨e1, h⟩ | ⟨id, off, len, cap, z, e1, h⟩
  · refine ⟨_, h, fun ρ ce he => ⟨_, .s (.int _ _), fun O w hO => ?_⟩⟩
    have h1 := (ev1 he hx (by simp [Op.operands, Call.operands]) e1).snil
    obtain ⟨cs, hrun⟩ := run_builtin (P := P) (ce := ce) hO rfl w
    rw [hrun]; simp [builtin, Builtin.len_, ht0, h1, run_underlying' hu, goInt]
  · refine ⟨_, h, fun ρ ce he => ⟨_, .s (.int _ _), fun O w hO => ?_⟩⟩
    obtain ⟨l, m, hl, hv, _⟩ := (ev1 he hx (by simp [Op.operands, Call.operands]) e1).sl
    obtain ⟨cs, hrun⟩ := run_builtin (P := P) (ce := ce) hO rfl w
    rw [hrun]; simp [builtin, Builtin.len_, ht0, hv, run_underlying' hu, goInt]
theorem pure_cap {t : TypeId} {rest : List TypeId} {e : TypeId} (hu : P.underlying t = some (.slice e)) (hx : opd x = some ax) (ha : args.toList = [x]) (ht : ats.toList = t :: rest) : PureOk P (.call ⟨.builtin .cap, args, ats⟩) (vCap ax) := by
  obtain rfl : args = #[x] := by cases args; simp_all
  have ht0 : ats[0]? = some t := by rw [← Array.getElem?_toList, ht]; rfl
  intro tm ret r h
  rcases onSl_some h with ⟨e1, h⟩ | ⟨id, off, len, cap, z, e1, h⟩
  · refine ⟨_, h, fun ρ ce he => ⟨_, .s (.int _ _), fun O w hO => ?_⟩⟩
    have h1 := (ev1 he hx (by simp [Op.operands, Call.operands]) e1).snil
    obtain ⟨cs, hrun⟩ := run_builtin (P := P) (ce := ce) hO rfl w
    rw [hrun]; simp [builtin, Builtin.cap_, ht0, h1, run_underlying' hu, goInt]
  · cases cap with
    | none => exact none_some h
    | some c =>
      refine ⟨_, h, fun ρ ce he => ⟨_, .s (.int _ _), fun O w hO => ?_⟩⟩
      obtain ⟨l, m, hl, hv, hm⟩ := (ev1 he hx (by simp [Op.operands, Call.operands]) e1).sl
      obtain rfl : c = m := by rcases hm with hm | hm <;> simp at hm; exact hm
      obtain ⟨cs, hrun⟩ := run_builtin (P := P) (ce := ce) hO rfl w
      rw [hrun]; simp [builtin, Builtin.cap_, ht0, hv, run_underlying' hu, goInt]

/-! ### min, max -/
theorem minmaxK_some {mx : Bool} {ret : AV → R} {tm : Tm} {r : AV × AH} : ∀ {l : List Opd} {k : IntKind} {a : Int}, minmaxK mx ret tm l k a = some r →
    ∃ n, ret (.s (.int k n)) = some r ∧ ∀ (ρ : Emb) (ce : Operand → Value) (xs : List Operand), All2 (fun (ax : Opd) x => VR ρ (ax tm) (ce x)) l xs →
      ∀ w, ((xs.map ce).foldlM (if mx then Builtin.max2 else Builtin.min2) (.int k a)).run P w = .ok (.int k n) w := by
  intro l
  induction l with
  | nil => intro k a h; exact ⟨a, h, fun ρ ce xs hx w => by cases hx; rfl⟩
  | cons y l ih =>
    intro k a h
    obtain ⟨kb, b, e, h⟩ := onInt_some (k := fun _ b => Bool.rec (motive := fun _ => R) (minmaxK mx ret tm l k a) (minmaxK mx ret tm l k b) (Bool.rec (motive := fun _ => Bool) (ltI b a) (ltI a b) mx)) h
    have step : ∀ (c : Int), (c = if (if mx then decide (a < b) else decide (b < a)) then b else a) → minmaxK mx ret tm l k c = some r →
      ∃ n, ret (.s (.int k n)) = some r ∧ ∀ (ρ : Emb) (ce : Operand → Value) (xs : List Operand), All2 (fun (ax : Opd) x => VR ρ (ax tm) (ce x)) (y :: l) xs →
      ∀ w, ((xs.map ce).foldlM (if mx then Builtin.max2 else Builtin.min2) (.int k a)).run P w = .ok (.int k n) w := by
      intro c hc hm
      obtain ⟨n, hn, hr⟩ := ih hm
      refine ⟨n, hn, fun ρ ce xs hx w => ?_⟩
      cases hx with
      | cons hy hx =>
        rw [e] at hy
        have hy' := hy.int
        have := hr ρ ce _ hx w
        cases mx <;> simp only [Bool.false_eq_true, if_false, if_true] at hc this ⊢ <;> simp [hy', Builtin.max2, Builtin.min2, List.foldlM_cons] <;> (subst hc; simpa using this)
    cases mx with
    | true =>
      cases hl : ltI a b with
      | true =>
        rw [show (Bool.rec (motive := fun _ => Bool) (ltI b a) (ltI a b) true) = ltI a b from rfl, hl] at h
        rw [ltI_eq] at hl
        exact step b (by have := of_decide_eq_true hl; simp [this]) h
      | false =>
        rw [show (Bool.rec (motive := fun _ => Bool) (ltI b a) (ltI a b) true) = ltI a b from rfl, hl] at h
        rw [ltI_eq] at hl
        exact step a (by have := of_decide_eq_false hl; simp [this]) h
    | false =>
      cases hl : ltI b a with
      | true =>
        rw [show (Bool.rec (motive := fun _ => Bool) (ltI b a) (ltI a b) false) = ltI b a from rfl, hl] at h
        rw [ltI_eq] at hl
        exact step b (by have := of_decide_eq_true hl; simp [this]) h
      | false =>
        rw [show (Bool.rec (motive := fun _ => Bool) (ltI b a) (ltI a b) false) = ltI b a from rfl, hl] at h
        rw [ltI_eq] at hl
        exact step a (by have := of_decide_eq_false hl; simp [this]) h
end
end Go.Bb
