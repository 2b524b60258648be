/-
  The operations that look at operands alone, the third part: parts put together, cut, held against each other.
-/
import Derived.Test.YtjdcodjoheckcaaGreatDoorBbPure2
namespace Go.Bb
variable {P : Program}

section
variable {x y c : Operand} {ax ay ac : Opd} {t t2 : TypeId} {args : Array Operand} {ats : Array TypeId}

theorem pure_minmax {mx : Bool} {xs : List Opd} (ha : opds args.toList = some (ax :: xs)) : PureOk P (.call ⟨.builtin (if mx then .max else .min), args, ats⟩) (vMinMax mx ax xs) := by
  intro tm ret r h
  obtain ⟨k, a, e1, h⟩ := onInt_some h
  obtain ⟨n, h, hr⟩ := minmaxK_some (P := P) h
  refine ⟨_, h, fun ρ ce he => ⟨_, .s (.int _ _), fun O w hO => ?_⟩⟩
  have hrel := opds_rel (ρ := ρ) (tm := tm) (ce := ce) ha (fun x hx ax hax => he x (by simp [Op.operands, Call.operands]; simpa using hx) ax hax)
  obtain ⟨cs, hrun⟩ := run_builtin (P := P) (ce := ce) hO rfl w
  rw [hrun]
  cases hl : args.toList with
  | nil => rw [hl] at hrel; cases hrel
  | cons z zs =>
    rw [hl] at hrel
    cases hrel with
    | cons h0 hrest =>
      rw [e1] at h0
      have hz := h0.int
      have hm : (args.map ce).toList = .int k a :: zs.map ce := by simp [hl, hz]
      have := hr ρ ce zs hrest w
      cases mx <;> simp only [Bool.false_eq_true, if_false, if_true] at this ⊢ <;> simp only [builtin, Builtin.min_, Builtin.max_, hm, Sem.run_bind, this, Result.andThen_ok, Sem.run_pure]

/-! ### Parts put together -/
theorem foldl_set (vs : List Value) : ∀ (off k : Nat) (cs : Array Value), off + k + vs.length ≤ cs.size →
    ((vs.zipIdx k).foldl (fun (cs : Array Value) (p : Value × Nat) => cs.setIfInBounds (off + p.2) p.1) cs).toList = cs.toList.take (off + k) ++ vs ++ cs.toList.drop (off + k + vs.length) := by
  induction vs with
  | nil => intro off k cs h; simp
  | cons v vs ih =>
    intro off k cs h
    simp only [List.length_cons] at h
    simp only [List.zipIdx_cons, List.foldl_cons]
    rw [ih off (k + 1) _ (by simp; omega), Array.toList_setIfInBounds]
    have hlen : cs.toList.length = cs.size := by simp
    generalize cs.toList = L at *
    have hset : L.set (off + k) v = L.take (off + k) ++ v :: L.drop (off + k + 1) := by rw [List.set_eq_take_append_cons_drop, if_pos (by omega)]
    have ht : (L.take (off + k)).length = off + k := by simp; omega
    have e1 : (L.set (off + k) v).take (off + (k + 1)) = L.take (off + k) ++ [v] := by
      rw [hset, List.take_append, ht, List.take_of_length_le (by omega), show off + (k + 1) - (off + k) = 1 by omega]; rfl
    have e2 : (L.set (off + k) v).drop (off + (k + 1) + vs.length) = L.drop (off + k + (vs.length + 1)) := by
      rw [hset, List.drop_append, ht, List.drop_of_length_le (by omega), show off + (k + 1) + vs.length - (off + k) = vs.length + 1 by omega, List.drop_succ_cons, List.drop_drop, List.nil_append]
      congr 1; omega
    rw [e1, e2]; simp

/-- parts, in the model as in the abstract machine -/
theorem fillK_some {tm : Tm} {place : Nat → Option (Nat × Nat)} : ∀ {ps : List (Nat × Nat × Opd)} {parts : List (Nat × Operand)} {cs : List SV} {k : List SV → R} {r : AV × AH},
    partsOf place parts = some ps → fillK tm ps cs k = some r →
    ∃ out, k out = some r ∧ ∀ (ρ : Emb) (ce : Operand → Value), (∀ p ∈ parts, ∀ ax, opd p.2 = some ax → VR ρ (ax tm) (ce p.2)) → ∀ (ccs : Array Value), All2 (SR ρ) cs ccs.toList →
      ∃ cout, Instr.fill place ccs (parts.map fun p => (p.1, ce p.2)) = some cout ∧ All2 (SR ρ) out cout.toList := by
  intro ps
  induction ps with
  | nil =>
    intro parts cs k r hp h
    cases parts with
    | nil => exact ⟨cs, h, fun ρ ce _ ccs hc => ⟨ccs, rfl, hc⟩⟩
    | cons p parts =>
      obtain ⟨i, x⟩ := p
      simp only [partsOf] at hp
      split at hp <;> simp at hp
  | cons p ps ih =>
    intro parts cs k r hp h
    cases parts with
    | nil => simp [partsOf] at hp
    | cons q parts =>
      obtain ⟨i, x⟩ := q
      simp only [partsOf] at hp
      split at hp
      · rename_i off size ax' rest h1 h2 h3
        simp only [Option.some.injEq, List.cons.injEq] at hp
        obtain ⟨rfl, rfl⟩ := hp
        obtain ⟨vs, hvs, h⟩ := onCells_some (k := fun vs => iteR (andB (Nat.beq (lenS vs) size) (Nat.ble (Nat.add off size) (lenS cs))) (wholeS (overAt off vs cs) fun cs => fillK tm rest cs k) none) h
        obtain ⟨hb, h⟩ := guard_some h
        rw [andB_eq, Bool.and_eq_true, lenS_eq, lenS_eq] at hb
        have hsz : vs.length = size := Nat.eq_of_beq_eq_true hb.1
        have hle : off + size ≤ cs.length := Nat.le_of_ble_eq_true hb.2
        rw [wholeS_eq, overAt_eq _ _ _ (by omega)] at h
        obtain ⟨out, h, hr⟩ := ih h3 h
        refine ⟨out, h, fun ρ ce he ccs hc => ?_⟩
        have hv := he (i, x) (by simp) ax' h2
        have hcells := hv.cells hvs
        have hl : (ce x).cells.size = size := by have := hcells.length; simp at this; omega
        have hcl : ccs.size = cs.length := by have := hc.length; simp at this; omega
        have hset := foldl_set (ce x).cells.toList off 0 ccs (by simp; omega)
        obtain ⟨cout, hf, ho⟩ := hr ρ ce (fun p hp => he p (by simp [hp])) ((((ce x).cells.toList.zipIdx 0).foldl (fun (cs : Array Value) (p : Value × Nat) => cs.setIfInBounds (off + p.2) p.1) ccs)) (by
          rw [hset]
          simp only [Nat.add_zero, Array.length_toList, hl]
          have := ((hc.take off).append hcells).append (hc.drop (off + size))
          rw [hsz]; simpa using this)
        refine ⟨cout, ?_, ho⟩
        simp only [List.map_cons, Instr.fill, h1]
        rw [if_neg (by rw [hl, hcl]; simp; omega), ← hf]
        congr 1
        rw [← Array.foldl_toList]
        simp
      · simp at hp

theorem zero_rel {ρ : Emb} {z : List SV} (h : zeroT P t = some z) : ∃ v : Value, All2 (SR ρ) z v.cells.toList ∧ ∀ w, (zeroValue t).run P w = .ok v w := by
  unfold zeroT at h
  split at h
  · rename_i v hv
    obtain ⟨i, hi, hz⟩ := Option.bind_eq_some_iff.1 hv
    exact ⟨v, SV.ofCells_rel ρ h, fun w => by simp [zeroValue, typeInfo, hi, hz]⟩
  · simp at h

def placeOf (f : Field) : Sem (Nat × Nat) := do pure (f.offset, ← sizeOf f.type)
theorem run_placeOf {f : Field} {n : Nat} (h : sizeT P f.type = some n) (w : World) : (placeOf f).run P w = .ok (f.offset, n) w := by simp [placeOf, run_sizeOf' h]
theorem run_places' (fs : List Field) (w : World) : ∀ (_ : ∀ f ∈ fs, (sizeT P f.type).isSome = true), (fs.mapM placeOf).run P w = .ok (fs.map fun f => (f.offset, (sizeT P f.type).getD 0)) w := by
  induction fs with
  | nil => intro _; rfl
  | cons f fs ih =>
    intro hs
    obtain ⟨n, hn⟩ := Option.isSome_iff_exists.1 (hs f (by simp))
    simp [List.mapM_cons, run_placeOf hn, ih (fun g hg => hs g (by simp [hg])), hn]

theorem pure_buildStruct {fs : Array Field} {parts : Array (Nat × Operand)} {z : List SV} {ps : List (Nat × Nat × Opd)} (hu : P.underlying t = some (.struct fs)) (hz : zeroT P t = some z) (hall : fs.all (fun f => (sizeT P f.type).isSome) = true)
    (hp : partsOf (fun i => match fs[i]? with | some f => (sizeT P f.type).map (f.offset, ·) | none => none) parts.toList = some ps) : PureOk P (.build t parts) (vBuild z ps) := by
  have hall' : ∀ f ∈ fs, (sizeT P f.type).isSome = true := fun f hf => by rw [Array.all_eq_true_iff_forall_mem] at hall; exact hall f hf
  intro tm ret r h
  obtain ⟨out, h, hr⟩ := fillK_some hp h
  refine ⟨_, h, fun ρ ce he => ?_⟩
  obtain ⟨zv, hzr, hzrun⟩ := zero_rel (ρ := ρ) hz
  obtain ⟨cout, hf, ho⟩ := hr ρ ce (fun p hp ax hax => he p.2 (by simp [Op.operands]; exact ⟨p.1, by simpa using hp⟩) ax hax) zv.cells hzr
  refine ⟨.agg cout, .agg ho, fun O w hO => ?_⟩
  have hpl : (fun i => (fs.toList.map fun (f : Field) => (f.offset, (sizeT P f.type).getD 0)).toArray[i]?) = fun (i : Nat) => match fs[i]? with | some f => (sizeT P f.type).map (f.offset, ·) | none => none := by
    funext i
    cases hfi : fs[i]? with
    | none => simp [hfi]
    | some f =>
      obtain ⟨n, hn⟩ := Option.isSome_iff_exists.1 (hall' f (Array.mem_of_getElem? hfi))
      simp [hfi, hn]
  have hm : (fs.mapM placeOf).run P w = .ok (fs.toList.map fun f => (f.offset, (sizeT P f.type).getD 0)).toArray w := by
    rw [Array.mapM_eq_mapM_toList, Sem.run_map, run_places' (P := P) fs.toList w (fun f hf => hall' f (by simpa using hf))]; rfl
  have hmap : (parts.map fun (p : Nat × Operand) => (p.1, ce p.2)).toList = parts.toList.map fun p => (p.1, ce p.2) := by simp
  have hb : Instr.build t (parts.map fun (p : Nat × Operand) => (p.1, ce p.2)) = (do
      let zero := (← zeroValue t).cells
      match ← underlying t with
      | .struct fields =>
        let places ← fields.mapM placeOf
        let some cells := Instr.fill (places[·]?) zero (parts.map fun (p : Nat × Operand) => (p.1, ce p.2)).toList | stuck "build: no such field, or a part of the wrong size"
        pure (.agg cells)
      | .array _ elem =>
        let size ← sizeOf elem
        let some cells := Instr.fill (fun i => some (i * size, size)) zero (parts.map fun (p : Nat × Operand) => (p.1, ce p.2)).toList | stuck "build: a part of the wrong size"
        pure (.agg cells)
      | _ => stuck "build: struct or array type expected") := rfl
  have he' : execOp ce O = (do pure (.value (← Instr.build t (parts.map fun (p : Nat × Operand) => (p.1, ce p.2))))) := by simp only [execOp, hO]
  rw [he', hb]
  simp only [Sem.run_bind, hzrun, Result.andThen_ok, run_underlying' hu, hm, hmap, hpl, hf, Sem.run_pure]

theorem pure_buildArray {e n s : Nat} {parts : Array (Nat × Operand)} {z : List SV} {ps : List (Nat × Nat × Opd)} (hu : P.underlying t = some (.array n e)) (hz : zeroT P t = some z) (hs : sizeT P e = some s)
    (hp : partsOf (fun i => some (i * s, s)) parts.toList = some ps) : PureOk P (.build t parts) (vBuild z ps) := by
  intro tm ret r h
  obtain ⟨out, h, hr⟩ := fillK_some hp h
  refine ⟨_, h, fun ρ ce he => ?_⟩
  obtain ⟨zv, hzr, hzrun⟩ := zero_rel (ρ := ρ) hz
  obtain ⟨cout, hf, ho⟩ := hr ρ ce (fun p hp ax hax => he p.2 (by simp [Op.operands]; exact ⟨p.1, by simpa using hp⟩) ax hax) zv.cells hzr
  refine ⟨.agg cout, .agg ho, fun O w hO => ?_⟩
  have hmap : (parts.map fun (p : Nat × Operand) => (p.1, ce p.2)).toList = parts.toList.map fun p => (p.1, ce p.2) := by simp
  simp only [execOp, hO, Instr.build, Sem.run_bind, hzrun, Result.andThen_ok, run_underlying' hu, run_sizeOf' hs, hmap, hf, Sem.run_pure]

/-! ### Cut -/
theorem bound_some {o : Option Operand} {ao : Option Opd} {d : Nat} {tm : Tm} {k : Nat → R} {r : AV × AH} (ho : optOpd o = some ao) (h : bound ao d tm k = some r) :
    ∃ n, k n = some r ∧ ((o = none ∧ n = d) ∨ ∃ x ax, o = some x ∧ opd x = some ax ∧ ∃ kd, ax tm = .s (.int kd (.ofNat n))) := by
  cases o with
  | none => simp [optOpd] at ho; subst ho; exact ⟨d, h, .inl ⟨rfl, rfl⟩⟩
  | some x =>
    simp only [optOpd, Option.map_eq_some_iff] at ho
    obtain ⟨ax, hax, rfl⟩ := ho
    obtain ⟨kd, n, e, h⟩ := onNat_some (v := ax tm) (k := k) h
    exact ⟨n, h, .inr ⟨x, ax, rfl, hax, kd, e⟩⟩

theorem run_bound {ρ : Emb} {tm : Tm} {ce : Operand → Value} {ax : Opd} {x : Operand} {kd : IntKind} {n : Nat} (h : VR ρ (ax tm) (ce x)) (e : ax tm = .s (.int kd (.ofNat n))) {m : Nat} (hn : n ≤ m) (code : BoundsCode) (w : World) :
    (Instr.sliceBound (ce x) m code).run P w = .ok n w := by
  rw [e] at h
  have := h.int
  simp [Instr.sliceBound, this, asIntOf, hn]

theorem run_bounds {ρ : Emb} {tm : Tm} {ce : Operand → Value} {lo hi : Option Operand} {h l len cap : Nat} (hE : ∀ x, lo = some x ∨ hi = some x → ∀ ax, opd x = some ax → VR ρ (ax tm) (ce x))
    (hhi : (hi = none ∧ h = len) ∨ ∃ x ax, hi = some x ∧ opd x = some ax ∧ ∃ kd, ax tm = .s (.int kd (.ofNat h))) (hlo : (lo = none ∧ l = 0) ∨ ∃ x ax, lo = some x ∧ opd x = some ax ∧ ∃ kd, ax tm = .s (.int kd (.ofNat l)))
    (h1 : h ≤ cap) (h2 : l ≤ h) (w : World) : (Instr.sliceBounds true len cap (lo.map ce) (hi.map ce) none).run P w = .ok (l, h, cap) w := by
  rcases hhi with ⟨rfl, rfl⟩ | ⟨x, ax, rfl, hax, kd, e⟩ <;> rcases hlo with ⟨rfl, rfl⟩ | ⟨x', ax', rfl, hax', kd', e'⟩
  · simp [Instr.sliceBounds]
  · have := run_bound (P := P) (hE x' (.inl rfl) ax' hax') e' h2 .sliceB w
    simp [Instr.sliceBounds, this]
  · have := run_bound (P := P) (hE x (.inr rfl) ax hax) e h1 .sliceAcap w
    simp [Instr.sliceBounds, this]
  · have := run_bound (P := P) (hE x (.inr rfl) ax hax) e h1 .sliceAcap w
    have h3 := run_bound (P := P) (hE x' (.inl rfl) ax' hax') e' h2 .sliceB w
    simp [Instr.sliceBounds, this, h3]

theorem pure_slice {e s : Nat} {lo hi : Option Operand} {alo ahi : Option Opd} (hu : P.underlying t = some (.slice e)) (hs : sizeT P e = some s) (hx : opd x = some ax) (hl : optOpd lo = some alo) (hh : optOpd hi = some ahi) :
    PureOk P (.slice t x lo hi none) (vSlice s ax alo ahi) := by
  intro tm ret r h
  rcases onSl_some h with ⟨e1, h⟩ | ⟨id, off, len, cap, z, e1, h⟩
  · obtain ⟨nh, h, hhi⟩ := bound_some hh h
    obtain ⟨nl, h, hlo⟩ := bound_some hl h
    obtain ⟨hb, h⟩ := guard_some h
    rw [andB_eq, Bool.and_eq_true] at hb
    obtain rfl : nh = 0 := Nat.eq_of_beq_eq_true hb.1
    obtain rfl : nl = 0 := Nat.eq_of_beq_eq_true hb.2
    refine ⟨_, h, fun ρ ce he => ⟨_, .s .snil, fun O w hO => ?_⟩⟩
    have h1 := (ev1 he hx (by simp [Op.operands]) e1).snil
    have hrun := run_bounds (P := P) (ce := ce) (tm := tm) (ρ := ρ) (lo := lo) (hi := hi) (len := 0) (cap := 0) (fun x hx ax hax => he x (by rcases hx with rfl | rfl <;> simp [Op.operands]) ax hax) hhi hlo (Nat.le_refl _) (Nat.le_refl _) w
    simp [execOp, hO, h1, Instr.sliceAt, run_underlying' hu, Instr.slice, hrun, run_sizeOf' hs]
  · obtain ⟨nh, h, hhi⟩ := bound_some hh h
    obtain ⟨nl, h, hlo⟩ := bound_some hl h
    cases cap with
    | some c =>
      obtain ⟨hb, h⟩ := guard_some (b := andB (Nat.ble nh c) (Nat.ble nl nh)) (t := forceN (Nat.sub c nl) fun m => iteR (Nat.beq c nl) (retSl id off (Nat.sub nh nl) (some m) z ret) (retSl id (Nat.add off (Nat.mul nl s)) (Nat.sub nh nl) (some m) z ret)) h
      rw [andB_eq, Bool.and_eq_true] at hb
      have b1 : nh ≤ c := Nat.le_of_ble_eq_true hb.1
      have b2 : nl ≤ nh := Nat.le_of_ble_eq_true hb.2
      rw [forceN_eq] at h
      have fin : ∀ (o : Nat), (o = if c = nl then off else off + nl * s) → (retSl id o (Nat.sub nh nl) (some (Nat.sub c nl)) z ret = some r) → ∃ v, ret v = some r ∧
        ∀ (ρ : Emb) (ce : Operand → Value), EvR ρ tm ce (Op.slice t x lo hi none).operands → ∃ cv, VR ρ v cv ∧ ∀ (O : Oper) (w : World), O.op = Op.slice t x lo hi none → (execOp ce O).run P w = .ok (.value cv) w := by
        intro o ho h
        unfold retSl at h
        rw [forceN_eq, forceN_eq] at h
        refine ⟨_, h, fun ρ ce he => ?_⟩
        obtain ⟨l, m, hl', hv, hm⟩ := (ev1 he hx (by simp [Op.operands]) e1).sl
        obtain rfl : c = m := by rcases hm with hm | hm <;> simp at hm; exact hm
        refine ⟨_, .s (.sl hl'), fun O w hO => ?_⟩
        have hrun := run_bounds (P := P) (ce := ce) (tm := tm) (ρ := ρ) (lo := lo) (hi := hi) (len := len) (cap := c) (fun x hx ax hax => he x (by rcases hx with rfl | rfl <;> simp [Op.operands]) ax hax) hhi hlo b1 b2 w
        simp only [execOp, hO, hv, Instr.sliceAt, Sem.run_bind, run_underlying' hu, Result.andThen_ok, Instr.slice, hrun, run_sizeOf' hs, Option.map_none, Sem.run_pure]
        subst ho
        by_cases hc : c = nl
        · simp [hc]
        · simp [hc, at_add]
      rcases iteR_some h with ⟨hc, h⟩ | ⟨hc, h⟩
      · exact fin off (by rw [if_pos (Nat.eq_of_beq_eq_true hc)]) h
      · exact fin _ (by rw [if_neg (Nat.ne_of_beq_eq_false hc)]; rfl) h
    | none =>
      obtain ⟨hb, h⟩ := guard_some (b := andB (andB (Nat.ble nh len) (Nat.ble nl nh)) (Nat.beq z s)) (t := iteR (Nat.beq nl 0) (retSl id off nh none z ret) (iteR (Nat.ble (Nat.succ nl) len) (retSl id (Nat.add off (Nat.mul nl s)) (Nat.sub nh nl) none z ret) none)) h
      rw [andB_eq, andB_eq, Bool.and_eq_true, Bool.and_eq_true] at hb
      have b1 : nh ≤ len := Nat.le_of_ble_eq_true hb.1.1
      have b2 : nl ≤ nh := Nat.le_of_ble_eq_true hb.1.2
      obtain rfl : z = s := Nat.eq_of_beq_eq_true hb.2
      rcases iteR_some h with ⟨hc, h⟩ | ⟨hc, h⟩
      · obtain rfl : nl = 0 := Nat.eq_of_beq_eq_true hc
        unfold retSl at h
        rw [forceN_eq, forceN_eq] at h
        refine ⟨_, h, fun ρ ce he => ?_⟩
        obtain ⟨l, m, hl', hv, hm⟩ := (ev1 he hx (by simp [Op.operands]) e1).sl
        obtain ⟨hm1, hm2⟩ : len ≤ m ∧ l.base + off + m * z ≤ l.size := by rcases hm with hm | hm <;> simp at hm; exact hm
        refine ⟨_, .s (.slu hl' (by omega) hm2), fun O w hO => ?_⟩
        have hrun := run_bounds (P := P) (ce := ce) (tm := tm) (ρ := ρ) (lo := lo) (hi := hi) (len := len) (cap := m) (fun x hx ax hax => he x (by rcases hx with rfl | rfl <;> simp [Op.operands]) ax hax) hhi hlo (by omega) b2 w
        simp only [execOp, hO, hv, Instr.sliceAt, Sem.run_bind, run_underlying' hu, Result.andThen_ok, Instr.slice, hrun, run_sizeOf' hs, Option.map_none, Sem.run_pure]
        simp [at_add]
      · obtain ⟨hc2, h⟩ := guard_some h
        have hlt : nl < len := Nat.le_of_ble_eq_true hc2
        unfold retSl at h
        rw [forceN_eq, forceN_eq] at h
        refine ⟨_, h, fun ρ ce he => ?_⟩
        obtain ⟨l, m, hl', hv, hm⟩ := (ev1 he hx (by simp [Op.operands]) e1).sl
        obtain ⟨hm1, hm2⟩ : len ≤ m ∧ l.base + off + m * z ≤ l.size := by rcases hm with hm | hm <;> simp at hm; exact hm
        have hsub : l.base + (off + nl * z) + (m - nl) * z ≤ l.size := by
          have : nl * z + (m - nl) * z = m * z := by rw [← Nat.add_mul]; congr 1; omega
          omega
        refine ⟨_, .s (.slu (c := m - nl) hl' (show Nat.sub nh nl ≤ m - nl from by show nh - nl ≤ m - nl; omega) hsub), fun O w hO => ?_⟩
        have hrun := run_bounds (P := P) (ce := ce) (tm := tm) (ρ := ρ) (lo := lo) (hi := hi) (len := len) (cap := m) (fun x hx ax hax => he x (by rcases hx with rfl | rfl <;> simp [Op.operands]) ax hax) hhi hlo (by omega) b2 w
        simp only [execOp, hO, hv, Instr.sliceAt, Sem.run_bind, run_underlying' hu, Result.andThen_ok, Instr.slice, hrun, run_sizeOf' hs, Option.map_none, Sem.run_pure]
        rw [if_neg (by omega)]
        simp [at_add]

/-! ### Equality -/
theorem run_equal {x y : Value} {b : Bool} {w : World} (h : (Op.equalIn (9999 + 1) t x y).run P w = .ok b w) : (Op.equal t x y).run P w = .ok b w := h

theorem run_eqOp {neg : Bool} {ce : Operand → Value} {O : Oper} {w : World} {b : Bool} (hO : O.op = .binOp (if neg then .neq else .eql) t x y t2) (hg : (eqGuard (if neg then .neq else .eql) t x y (ce x) (ce y)).run P w = .ok () w)
    (hbin : ∀ op, (op = .eql ∧ binOp op t (ce x) (ce y) = (do pure (.bool (← Op.equal t (ce x) (ce y))))) ∨ (op = .neq ∧ binOp op t (ce x) (ce y) = (do pure (.bool (!(← Op.equal t (ce x) (ce y)))))) ∨ (op ≠ .eql ∧ op ≠ .neq))
    (h : (Op.equal t (ce x) (ce y)).run P w = .ok b w) : (execOp ce O).run P w = .ok (.value (.bool (neg ^^ b))) w := by
  cases neg with
  | false =>
    rcases hbin .eql with ⟨_, hb⟩ | ⟨h1, _⟩ | ⟨h1, _⟩
    · simp only [Bool.false_eq_true, if_false] at hO hg
      simp only [execOp, hO, Sem.run_bind, hg, Result.andThen_ok, hb, h, Sem.run_pure, Bool.false_xor]
    · cases h1
    · exact absurd rfl h1
  | true =>
    rcases hbin .neq with ⟨h1, _⟩ | ⟨_, hb⟩ | ⟨_, h1⟩
    · cases h1
    · simp only [if_true] at hO hg
      simp only [execOp, hO, Sem.run_bind, hg, Result.andThen_ok, hb, h, Sem.run_pure, Bool.true_xor]
    · exact absurd rfl h1

theorem pure_eqB {neg : Bool} (hu : P.underlying t = some .bool) (hx : opd x = some ax) (hy : opd y = some ay) : PureOk P (.binOp (if neg then .neq else .eql) t x y t2) (vEqB neg ax ay) := by
  intro tm ret r h
  obtain ⟨a, e1, h⟩ := onBool_some h
  obtain ⟨b, e2, h⟩ := onBool_some h
  rw [retB_eq, eqB_eq, xorB_eq] at h
  refine ⟨_, h, fun ρ ce he => ⟨_, .s (.bool _), fun O w hO => ?_⟩⟩
  have h1 := (ev1 he hx (by simp [Op.operands]) e1).bool
  have h2 := (ev1 he hy (by simp [Op.operands]) e2).bool
  refine run_eqOp hO (by rw [h1, h2]; unfold eqGuard; cases neg <;> rfl) (fun op => ?_) (run_equal (by rw [h1, h2]; exact run_equalIn_bool' w 9999 t a b hu))
  rw [h1, h2]
  cases op <;> first | exact .inl ⟨rfl, rfl⟩ | exact .inr (.inl ⟨rfl, rfl⟩) | exact .inr (.inr ⟨by simp, by simp⟩)

theorem pure_eqStr {neg : Bool} (hx : opd x = some ax) (hy : opd y = some ay) : PureOk P (.binOp (if neg then .neq else .eql) t x y t2) (vEqStr neg ax ay) := by
  intro tm ret r h
  obtain ⟨a, e1, h⟩ := onStr_some h
  obtain ⟨b, e2, h⟩ := onStr_some h
  rw [retB_eq, natsEq_eq, xorB_eq] at h
  refine ⟨_, h, fun ρ ce he => ⟨_, .s (.bool _), fun O w hO => ?_⟩⟩
  obtain ⟨s1, h1, rfl⟩ := (ev1 he hx (by simp [Op.operands]) e1).str
  obtain ⟨s2, h2, rfl⟩ := (ev1 he hy (by simp [Op.operands]) e2).str
  have hinj : (s1.data.toList.map UInt8.toNat == s2.data.toList.map UInt8.toNat) = (s1.toList == s2.toList) := by
    rw [ByteArray.toList_eq, ByteArray.toList_eq, Bool.eq_iff_iff]
    simp only [beq_iff_eq]
    exact List.map_inj_right fun _ _ h => UInt8.toNat_inj.1 h
  rw [hinj]
  cases neg <;> simp [execOp, hO, h1, h2, eqGuard, binOp, Op.stringOp]

/-- one of two is nil: in the model's values -/
def NilR (n : Nat) (v : Value) : Prop :=
  match n with
  | 0 => v = .pointer none
  | 1 => ∃ a, v = .pointer (some a)
  | 2 => v = .slice none 0 0
  | 3 => ∃ a l c, v = .slice (some a) l c
  | 4 => v = .map none
  | 5 => ∃ r, v = .map (some r)
  | 6 => v = .nilFunc
  | 7 => ∃ f fs vs, v = .func (.func f) fs vs
  | _ => False

theorem nilK_some {v : AV} {k : Nat → R} {r : AV × AH} (h : nilK v k = some r) : ∃ n, k n = some r ∧ n < 8 ∧ ∀ (ρ : Emb) (c : Value), VR ρ v c → NilR n c := by
  cases v with
  | s s =>
    cases s <;> first | exact none_some h | skip
    · exact ⟨0, h, by omega, fun ρ c hc => hc.pnil⟩
    · exact ⟨1, h, by omega, fun ρ c hc => by obtain ⟨l, _, h⟩ := hc.ptr; exact ⟨_, h⟩⟩
    · exact ⟨2, h, by omega, fun ρ c hc => hc.snil⟩
    · exact ⟨3, h, by omega, fun ρ c hc => by obtain ⟨l, n, _, h, _⟩ := hc.sl; exact ⟨_, _, _, h⟩⟩
    · exact ⟨4, h, by omega, fun ρ c hc => hc.mnil⟩
    · exact ⟨5, h, by omega, fun ρ c hc => by obtain ⟨l, _, h⟩ := hc.map; exact ⟨_, h⟩⟩
    · exact ⟨7, h, by omega, fun ρ c hc => by obtain ⟨g, fs, vs, h⟩ := hc.fn'; exact ⟨_, _, _, h⟩⟩
    · exact ⟨6, h, by omega, fun ρ c hc => hc.fnil⟩
  | agg => exact none_some h
  | tup => exact none_some h

/-- the kind of type that goes with a base number -/
def nilType : Nat → TypeDesc → Prop
  | 0, d => ∃ e, d = .pointer e
  | 2, d => ∃ e, d = .slice e
  | 4, d => ∃ k e, d = .map k e
  | 6, d => ∃ p q v, d = .func p q v
  | _, _ => False

section nils
variable (D : Nat) (w : World)
theorem nil_ptr {e : TypeId} (hu : P.underlying t = some (.pointer e)) (a b : Option Addr) (hab : a = none ∨ b = none) : (Op.equalIn (D + 1) t (.pointer a) (.pointer b)).run P w = .ok (a.isNone && b.isNone) w := by
  rcases hab with rfl | rfl
  · simp only [Op.equalIn, Sem.run_bind, run_underlying' hu, Result.andThen_ok]; cases b <;> rfl
  · cases a <;> simp only [Op.equalIn, Sem.run_bind, run_underlying' hu, Result.andThen_ok] <;> rfl
theorem nil_slice {e : TypeId} (hu : P.underlying t = some (.slice e)) (a b : Option Addr) (hab : a = none ∨ b = none) (l c l' c' : Nat) : (Op.equalIn (D + 1) t (.slice a l c) (.slice b l' c')).run P w = .ok (a.isNone && b.isNone) w := by
  rcases hab with rfl | rfl
  · simp only [Op.equalIn, Sem.run_bind, run_underlying' hu, Result.andThen_ok]; cases b <;> rfl
  · cases a <;> simp only [Op.equalIn, Sem.run_bind, run_underlying' hu, Result.andThen_ok] <;> rfl
theorem nil_map {k e : TypeId} (hu : P.underlying t = some (.map k e)) (a b : Option Nat) (hab : a = none ∨ b = none) : (Op.equalIn (D + 1) t (.map a) (.map b)).run P w = .ok (a.isNone && b.isNone) w := by
  rcases hab with rfl | rfl
  · simp only [Op.equalIn, Sem.run_bind, run_underlying' hu, Result.andThen_ok]; cases b <;> rfl
  · cases a <;> simp only [Op.equalIn, Sem.run_bind, run_underlying' hu, Result.andThen_ok] <;> rfl
theorem nil_fn {p q : Array TypeId} {vv : Bool} (hu : P.underlying t = some (.func p q vv)) : (Op.equalIn (D + 1) t .nilFunc .nilFunc).run P w = .ok true w := by
  simp only [Op.equalIn, Sem.run_bind, run_underlying' hu, Result.andThen_ok]; rfl
theorem nil_fn1 {p q : Array TypeId} {vv : Bool} (hu : P.underlying t = some (.func p q vv)) (f : Fn) (a b : Array Value) : (Op.equalIn (D + 1) t .nilFunc (.func f a b)).run P w = .ok false w := by
  simp only [Op.equalIn, Sem.run_bind, run_underlying' hu, Result.andThen_ok]; rfl
theorem nil_fn2 {p q : Array TypeId} {vv : Bool} (hu : P.underlying t = some (.func p q vv)) (f : Fn) (a b : Array Value) : (Op.equalIn (D + 1) t (.func f a b) .nilFunc).run P w = .ok false w := by
  simp only [Op.equalIn, Sem.run_bind, run_underlying' hu, Result.andThen_ok]; rfl
end nils

theorem bin_eq (u v : Value) (h : ∀ op : BinOp, (op = .eql → binOp op t u v = (do pure (.bool (← Op.equal t u v)))) ∧ (op = .neq → binOp op t u v = (do pure (.bool (!(← Op.equal t u v)))))) (op : BinOp) :
    (op = .eql ∧ binOp op t u v = (do pure (.bool (← Op.equal t u v)))) ∨ (op = .neq ∧ binOp op t u v = (do pure (.bool (!(← Op.equal t u v))))) ∨ (op ≠ .eql ∧ op ≠ .neq) := by
  by_cases h1 : op = .eql
  · exact .inl ⟨h1, (h op).1 h1⟩
  · by_cases h2 : op = .neq
    · exact .inr (.inl ⟨h2, (h op).2 h2⟩)
    · exact .inr (.inr ⟨h1, h2⟩)

def NilGood (P : Program) (t : TypeId) (u v : Value) (c : Bool) (w : World) : Prop :=
  (Op.equal t u v).run P w = .ok c w ∧ (∀ (x y : Operand) op, (eqGuard op t x y u v).run P w = .ok () w) ∧
    (∀ op, (op = .eql ∧ binOp op t u v = (do pure (.bool (← Op.equal t u v)))) ∨ (op = .neq ∧ binOp op t u v = (do pure (.bool (!(← Op.equal t u v))))) ∨ (op ≠ .eql ∧ op ≠ .neq))

theorem good_ptr {e : TypeId} (hu : P.underlying t = some (.pointer e)) (p q : Option Addr) (hpq : p = none ∨ q = none) (w : World) : NilGood P t (.pointer p) (.pointer q) (p.isNone && q.isNone) w :=
  ⟨run_equal (nil_ptr 9999 w hu p q hpq), fun x y op => by unfold eqGuard; cases op <;> rfl, bin_eq _ _ (fun op => ⟨fun h => by subst h; rfl, fun h => by subst h; rfl⟩)⟩
theorem good_slice {e : TypeId} (hu : P.underlying t = some (.slice e)) (p q : Option Addr) (hpq : p = none ∨ q = none) (l c l' c' : Nat) (w : World) : NilGood P t (.slice p l c) (.slice q l' c') (p.isNone && q.isNone) w :=
  ⟨run_equal (nil_slice 9999 w hu p q hpq l c l' c'), fun x y op => by unfold eqGuard; cases op <;> rfl, bin_eq _ _ (fun op => ⟨fun h => by subst h; rfl, fun h => by subst h; rfl⟩)⟩
theorem good_map {k e : TypeId} (hu : P.underlying t = some (.map k e)) (p q : Option Nat) (hpq : p = none ∨ q = none) (w : World) : NilGood P t (.map p) (.map q) (p.isNone && q.isNone) w :=
  ⟨run_equal (nil_map 9999 w hu p q hpq), fun x y op => by unfold eqGuard; cases op <;> rfl, bin_eq _ _ (fun op => ⟨fun h => by subst h; rfl, fun h => by subst h; rfl⟩)⟩

theorem run_nilEq {d : TypeDesc} {base a b : Nat} (hu : P.underlying t = some d) (hd : nilType base d) {u v : Value} (ha : NilR a u) (hb : NilR b v)
    (hab : (a = base ∧ b = base) ∨ (a = base ∧ b = base + 1) ∨ (a = base + 1 ∧ b = base)) (w : World) : NilGood P t u v (decide (a = b)) w := by
  have hbase : base = 0 ∨ base = 2 ∨ base = 4 ∨ base = 6 := by
    unfold nilType at hd; split at hd <;> simp_all
  rcases hbase with rfl | rfl | rfl | rfl
  · obtain ⟨e, rfl⟩ := hd
    rcases hab with ⟨rfl, rfl⟩ | ⟨rfl, rfl⟩ | ⟨rfl, rfl⟩
    · have h1 : u = .pointer none := ha
      have h2 : v = .pointer none := hb
      subst h1; subst h2; exact good_ptr hu none none (.inl rfl) w
    · have h1 : u = .pointer none := ha
      obtain ⟨x, h2⟩ := hb
      subst h1; subst h2; exact good_ptr hu none (some x) (.inl rfl) w
    · obtain ⟨x, h1⟩ := ha
      have h2 : v = .pointer none := hb
      subst h1; subst h2; exact good_ptr hu (some x) none (.inr rfl) w
  · obtain ⟨e, rfl⟩ := hd
    rcases hab with ⟨rfl, rfl⟩ | ⟨rfl, rfl⟩ | ⟨rfl, rfl⟩
    · have h1 : u = .slice none 0 0 := ha
      have h2 : v = .slice none 0 0 := hb
      subst h1; subst h2; exact good_slice hu none none (.inl rfl) _ _ _ _ w
    · have h1 : u = .slice none 0 0 := ha
      obtain ⟨x, l, c, h2⟩ := hb
      subst h1; subst h2; exact good_slice hu none (some x) (.inl rfl) _ _ _ _ w
    · obtain ⟨x, l, c, h1⟩ := ha
      have h2 : v = .slice none 0 0 := hb
      subst h1; subst h2; exact good_slice hu (some x) none (.inr rfl) _ _ _ _ w
  · obtain ⟨k, e, rfl⟩ := hd
    rcases hab with ⟨rfl, rfl⟩ | ⟨rfl, rfl⟩ | ⟨rfl, rfl⟩
    · have h1 : u = .map none := ha
      have h2 : v = .map none := hb
      subst h1; subst h2; exact good_map hu none none (.inl rfl) w
    · have h1 : u = .map none := ha
      obtain ⟨x, h2⟩ := hb
      subst h1; subst h2; exact good_map hu none (some x) (.inl rfl) w
    · obtain ⟨x, h1⟩ := ha
      have h2 : v = .map none := hb
      subst h1; subst h2; exact good_map hu (some x) none (.inr rfl) w
  · obtain ⟨p, q, vv, rfl⟩ := hd
    rcases hab with ⟨rfl, rfl⟩ | ⟨rfl, rfl⟩ | ⟨rfl, rfl⟩
    · have h1 : u = .nilFunc := ha
      have h2 : v = .nilFunc := hb
      subst h1; subst h2
      exact ⟨run_equal (nil_fn 9999 w hu), fun x y op => by unfold eqGuard; cases op <;> rfl, bin_eq _ _ (fun op => ⟨fun h => by subst h; rfl, fun h => by subst h; rfl⟩)⟩
    · have h1 : u = .nilFunc := ha
      obtain ⟨f, fs, vs, h2⟩ := hb
      subst h1; subst h2
      exact ⟨run_equal (nil_fn1 9999 w hu _ _ _), fun x y op => by unfold eqGuard; cases op <;> rfl, bin_eq _ _ (fun op => ⟨fun h => by subst h; rfl, fun h => by subst h; rfl⟩)⟩
    · obtain ⟨f, fs, vs, h1⟩ := ha
      have h2 : v = .nilFunc := hb
      subst h1; subst h2
      exact ⟨run_equal (nil_fn2 9999 w hu _ _ _), fun x y op => by unfold eqGuard; cases op <;> rfl, bin_eq _ _ (fun op => ⟨fun h => by subst h; rfl, fun h => by subst h; rfl⟩)⟩

theorem pure_eqN {neg : Bool} {base : Nat} {d : TypeDesc} (hu : P.underlying t = some d) (hd : nilType base d) (hx : opd x = some ax) (hy : opd y = some ay) : PureOk P (.binOp (if neg then .neq else .eql) t x y t2) (vEqN neg base ax ay) := by
  intro tm ret r h
  obtain ⟨a, h, _, ha⟩ := nilK_some h
  obtain ⟨b, h, _, hb⟩ := nilK_some h
  have fin : ∀ (c : Bool), c = (neg ^^ decide (a = b)) → ((a = base ∧ b = base) ∨ (a = base ∧ b = base + 1) ∨ (a = base + 1 ∧ b = base)) → ret (.s (.bool c)) = some r → ∃ v, ret v = some r ∧
      ∀ (ρ : Emb) (ce : Operand → Value), EvR ρ tm ce (Op.binOp (if neg then .neq else .eql) t x y t2).operands → ∃ cv, VR ρ v cv ∧ ∀ (O : Oper) (w : World), O.op = Op.binOp (if neg then .neq else .eql) t x y t2 → (execOp ce O).run P w = .ok (.value cv) w := by
    intro c hc hab h
    refine ⟨_, h, fun ρ ce he => ⟨_, .s (.bool _), fun O w hO => ?_⟩⟩
    obtain ⟨h1, h2, h3⟩ := run_nilEq (P := P) hu hd (ha ρ _ (he x (by simp [Op.operands]) ax hx)) (hb ρ _ (he y (by simp [Op.operands]) ay hy)) hab w
    rw [run_eqOp hO (h2 x y _) h3 h1, hc]
  rcases iteR_some h with ⟨c1, h1⟩ | ⟨c1, h1⟩
  · have ea : a = base := Nat.eq_of_beq_eq_true c1
    rcases iteR_some h1 with ⟨c2, h2⟩ | ⟨c2, h2⟩
    · have eb : b = base := Nat.eq_of_beq_eq_true c2
      rw [retB_eq, notB_eq] at h2
      exact fin _ (by simp [ea, eb]) (.inl ⟨ea, eb⟩) h2
    · obtain ⟨c3, h3⟩ := guard_some h2
      have eb : b = base + 1 := Nat.eq_of_beq_eq_true c3
      rw [retB_eq] at h3
      exact fin _ (by simp [ea, eb]) (.inr (.inl ⟨ea, eb⟩)) h3
  · obtain ⟨c3, h3⟩ := guard_some h1
    rw [andB_eq, Bool.and_eq_true] at c3
    have ea : a = base + 1 := Nat.eq_of_beq_eq_true c3.1
    have eb : b = base := Nat.eq_of_beq_eq_true c3.2
    rw [retB_eq] at h3
    exact fin _ (by simp [ea, eb]) (.inr (.inr ⟨ea, eb⟩)) h3

/-! ### Structs of whole numbers and bools -/
theorem flatEq_append : ∀ {k1 k2 : List Bool} {l1 l2 r1 r2 : List SV} {c : Bool}, l1.length = k1.length → r1.length = k1.length → flatEq (k1 ++ k2) (l1 ++ l2) (r1 ++ r2) = some c →
    (flatEq k1 l1 r1 = some false ∧ c = false) ∨ (flatEq k1 l1 r1 = some true ∧ flatEq k2 l2 r2 = some c)
  | [], k2, [], l2, [], r2, c, _, _, h => .inr ⟨rfl, h⟩
  | k :: k1, k2, l :: l1, l2, r :: r1, r2, c, hl, hr, h => by
    simp only [List.length_cons, Nat.add_right_cancel_iff] at hl hr
    simp only [List.cons_append] at h
    cases k with
    | true =>
      cases l with
      | int ka a => cases r with
        | int kb b =>
          simp only [flatEq] at h ⊢
          cases hk : sameK ka kb with
          | false => simp [hk] at h
          | true =>
            cases he : eqI a b with
            | false => simp only [hk, he] at h ⊢; exact .inl ⟨trivial, by simpa using h.symm⟩
            | true => simp only [hk, he] at h ⊢; exact flatEq_append hl hr h
        | _ => simp [flatEq] at h
      | _ => simp [flatEq] at h
    | false =>
      cases l with
      | bool a => cases r with
        | bool b =>
          simp only [flatEq] at h ⊢
          cases he : eqB a b with
          | false => simp only [he] at h ⊢; exact .inl ⟨trivial, by simpa using h.symm⟩
          | true => simp only [he] at h ⊢; exact flatEq_append hl hr h
        | _ => simp [flatEq] at h
      | _ => simp [flatEq] at h
  | [], _, _ :: _, _, _, _, _, h, _, _ => by simp at h
  | [], _, [], _, _ :: _, _, _, _, h, _ => by simp at h
  | _ :: _, _, [], _, _, _, _, h, _, _ => by simp at h
  | _ :: _, _, _ :: _, _, [], _, _, _, h, _ => by simp at h

theorem part_scalar {d : TypeDesc} (hu : P.underlying t = some d) (h1 : ∀ fs, d ≠ .struct fs) (h2 : ∀ n e, d ≠ .array n e) {cs : Array Value} {o : Nat} {v : Value} (hv : cs[o]? = some v) (w : World) : (part t cs o).run P w = .ok v w := by
  have hg : (isAgg t).run P w = .ok false w := by
    simp only [isAgg, Sem.run_bind, run_underlying' hu, Result.andThen_ok]
    cases d <;> first | rfl | exact absurd rfl (h1 _) | exact absurd rfl (h2 _ _)
  simp [part, hg, hv]

/-- what flatT says of a type -/
def FlatGood (P : Program) (t : TypeId) (ks : List Bool) (D : Nat) : Prop :=
  ∀ (ρ : Emb) (a b : List SV) (A B : Array Value) (o : Nat) (c : Bool), All2 (SR ρ) a A.toList → All2 (SR ρ) b B.toList → o + ks.length ≤ a.length → o + ks.length ≤ b.length →
    flatEq ks ((a.drop o).take ks.length) ((b.drop o).take ks.length) = some c → ∀ w, ∃ va vb, (part t A o).run P w = .ok va w ∧ (part t B o).run P w = .ok vb w ∧ (Op.equalIn D t va vb).run P w = .ok c w

theorem flat_scalar {ks : List Bool} {d : TypeDesc} {bit : Bool} (hk : ks = [bit]) (hu : P.underlying t = some d) (h1 : ∀ fs, d ≠ .struct fs) (h2 : ∀ n e, d ≠ .array n e)
    (hrun : ∀ (x y : SV) (u v : Value) (ρ : Emb) (c : Bool), SR ρ x u → SR ρ y v → flatEq [bit] [x] [y] = some c → ∀ D w, (Op.equalIn (D + 1) t u v).run P w = .ok c w) (D : Nat) : FlatGood P t ks (D + 1) := by
  subst hk
  intro ρ a b A B o c hA hB ha hb h w
  simp only [List.length_cons, List.length_nil] at ha hb h
  obtain ⟨x, hx⟩ : ∃ x, a[o]? = some x := ⟨a[o]'(by omega), by simp⟩
  obtain ⟨y, hy⟩ : ∃ y, b[o]? = some y := ⟨b[o]'(by omega), by simp⟩
  obtain ⟨u, hu1, hu2⟩ := hA.get hx
  obtain ⟨v, hv1, hv2⟩ := hB.get hy
  have ex : (a.drop o).take 1 = [x] := by
    have : (a.drop o)[0]? = some x := by simpa using hx
    cases hd : a.drop o with
    | nil => rw [hd] at this; simp at this
    | cons z zs => rw [hd] at this; simp at this; subst this; rfl
  have ey : (b.drop o).take 1 = [y] := by
    have : (b.drop o)[0]? = some y := by simpa using hy
    cases hd : b.drop o with
    | nil => rw [hd] at this; simp at this
    | cons z zs => rw [hd] at this; simp at this; subst this; rfl
  rw [ex, ey] at h
  exact ⟨u, v, part_scalar hu h1 h2 (by simpa using hu1) w, part_scalar hu h1 h2 (by simpa using hv1) w, hrun x y u v ρ c hu2 hv2 h D w⟩

/-- one step of flatT's way through the fields -/
def flatStep (P : Program) (d : Nat) (acc : Option (List Bool)) (f : Field) : Option (List Bool) :=
  match acc with
  | some ks => if f.name ≠ "_" ∧ f.offset = ks.length then (flatT P d f.type).map (ks ++ ·) else none
  | none => none

theorem flatStep_none (d : Nat) (fs : List Field) : fs.foldl (flatStep P d) none = none := by
  induction fs with
  | nil => rfl
  | cons f fs ih => exact ih

theorem run_eqFields {d D : Nat} (hgood : ∀ t ks, flatT P d t = some ks → FlatGood P t ks D) : ∀ (fs : List Field) (ks0 ks : List Bool), fs.foldl (flatStep P d) (some ks0) = some ks →
    ∃ k2, ks = ks0 ++ k2 ∧ ∀ (ρ : Emb) (a b : List SV) (A B : Array Value) (c : Bool), All2 (SR ρ) a A.toList → All2 (SR ρ) b B.toList → a.length = ks.length → b.length = ks.length →
      flatEq k2 (a.drop ks0.length) (b.drop ks0.length) = some c → ∀ w, (Op.eqFields D A B fs).run P w = .ok c w
  | [], ks0, ks, h => by
    simp at h; subst h
    refine ⟨[], by simp, fun ρ a b A B c _ _ ha hb hf w => ?_⟩
    rw [List.drop_of_length_le (by omega), List.drop_of_length_le (by omega)] at hf
    simp [flatEq] at hf; subst hf; rfl
  | f :: fs, ks0, ks, h => by
    simp only [List.foldl_cons] at h
    cases hst : flatStep P d (some ks0) f with
    | none => rw [hst, flatStep_none] at h; cases h
    | some k1 =>
      rw [hst] at h
      obtain ⟨k2, rfl, hrest⟩ := run_eqFields hgood fs k1 ks h
      simp only [flatStep] at hst
      split at hst
      · rename_i hc
        simp only [Option.map_eq_some_iff] at hst
        obtain ⟨kf, hkf, rfl⟩ := hst
        refine ⟨kf ++ k2, by simp, fun ρ a b A B c hA hB ha hb hf w => ?_⟩
        simp only [List.length_append] at ha hb
        have sa : a.drop ks0.length = (a.drop ks0.length).take kf.length ++ a.drop (ks0 ++ kf).length := by
          rw [List.length_append, ← List.drop_drop, List.take_append_drop]
        have sb : b.drop ks0.length = (b.drop ks0.length).take kf.length ++ b.drop (ks0 ++ kf).length := by
          rw [List.length_append, ← List.drop_drop, List.take_append_drop]
        rw [sa, sb] at hf
        have key := flatEq_append (by simp; omega) (by simp; omega) hf
        have hg := hgood f.type kf hkf
        simp only [Op.eqFields, if_pos hc.1]
        rcases key with ⟨h1, rfl⟩ | ⟨h1, h2⟩
        · obtain ⟨va, vb, e1, e2, e3⟩ := hg ρ a b A B ks0.length false hA hB (by omega) (by omega) h1 w
          rw [hc.2]; simp [e1, e2, e3]
        · obtain ⟨va, vb, e1, e2, e3⟩ := hg ρ a b A B ks0.length true hA hB (by omega) (by omega) h1 w
          have := hrest ρ a b A B c hA hB (by simp; omega) (by simp; omega) h2 w
          rw [hc.2]; simp [e1, e2, e3, this]
      · cases hst

theorem flatT_struct {d : Nat} {fs : Array Field} {ks : List Bool} (hu : P.underlying t = some (.struct fs)) (h : flatT P (d + 1) t = some ks) :
    fs.toList.foldl (flatStep P d) (some []) = some ks ∧ P.stoodInHeld t = false ∧ sizeT P t = some ks.length := by
  have e : flatT P (d + 1) t = match fs.toList.foldl (flatStep P d) (some []) with
      | some ks => if P.stoodInHeld t = false ∧ sizeT P t = some ks.length then some ks else none
      | none => none := by
    rw [flatT, hu]; rfl
  rw [e] at h
  split at h
  · split at h
    · rename_i h1 h2; cases h; exact ⟨h1, h2.1, h2.2⟩
    · cases h
  · cases h

/-- two whole structs -/
theorem run_flat {d D : Nat} {fs : Array Field} {ks : List Bool} (hgood : ∀ t ks, flatT P d t = some ks → FlatGood P t ks D) (hu : P.underlying t = some (.struct fs)) (h : flatT P (d + 1) t = some ks)
    {ρ : Emb} {a b : List SV} {A B : Array Value} {c : Bool} (hA : All2 (SR ρ) a A.toList) (hB : All2 (SR ρ) b B.toList) (ha : a.length = ks.length) (hb : b.length = ks.length) (hf : flatEq ks a b = some c) (w : World) :
    (Op.equalIn (D + 1) t (.agg A) (.agg B)).run P w = .ok c w := by
  obtain ⟨h1, h2, h3⟩ := flatT_struct hu h
  obtain ⟨k2, hk, hr⟩ := run_eqFields hgood fs.toList [] ks h1
  simp at hk; subst hk
  have hfs : P.fieldsOf t = fs := by simp [Program.fieldsOf, hu]
  rw [run_equalIn_struct w D t A B (by rw [hfs, hu]) h2, hfs]
  exact hr ρ a b A B c hA hB ha hb (by simpa using hf) w

theorem flat_good : ∀ (d : Nat) (t : TypeId) (ks : List Bool), flatT P d t = some ks → ∀ D, FlatGood P t ks (D + d)
  | 0, t, ks, h, D => by simp [flatT] at h
  | d + 1, t, ks, h, D => by
    have hgood : ∀ t ks, flatT P d t = some ks → FlatGood P t ks (D + d) := fun t ks h => flat_good d t ks h D
    cases hu : P.underlying t with
    | none => rw [flatT, hu] at h; simp at h
    | some desc =>
      cases desc with
      | int k =>
        rw [flatT, hu] at h
        simp only at h
        split at h
        · cases h
          refine flat_scalar (bit := true) rfl hu (by simp) (by simp) (fun x y u v ρ c hx hy hf D w => ?_) (D + d)
          cases x <;> cases y <;> simp [flatEq] at hf
          cases hx; cases hy
          obtain ⟨hk, he⟩ : _ ∧ _ := by
            split at hf
            · rename_i hk; exact ⟨(sameK_eq _ _).1 hk, hf⟩
            · simp at hf
          subst hk
          rw [run_equalIn_int w D t _ k _ _ hu]
          rw [eqI_eq] at he
          split at he <;> simp_all
        · simp at h
      | bool =>
        rw [flatT, hu] at h
        simp only at h
        split at h
        · cases h
          refine flat_scalar (bit := false) rfl hu (by simp) (by simp) (fun x y u v ρ c hx hy hf D w => ?_) (D + d)
          cases x <;> cases y <;> simp [flatEq] at hf
          cases hx; cases hy
          rw [run_equalIn_bool' w D t _ _ hu]
          rw [eqB_eq] at hf
          split at hf <;> simp_all
        · simp at h
      | struct fs =>
        intro ρ a b A B o c hA hB ha hb hf w
        obtain ⟨h1, h2, h3⟩ := flatT_struct hu h
        have hg : aggT P t = some true := by simp [aggT, hu]
        have pA : (part t A o).run P w = .ok (.agg (A.extract o (o + ks.length))) w := by simp [part, run_isAgg' hg, run_sizeOf' h3]
        have pB : (part t B o).run P w = .ok (.agg (B.extract o (o + ks.length))) w := by simp [part, run_isAgg' hg, run_sizeOf' h3]
        refine ⟨_, _, pA, pB, ?_⟩
        exact run_flat (d := d) (D := D + d) hgood hu h (by simpa [Array.toList_extract] using (hA.drop o).take ks.length) (by simpa [Array.toList_extract] using (hB.drop o).take ks.length) (by simp; omega) (by simp; omega) hf w
      | _ => rw [flatT, hu] at h; simp at h

theorem pure_eqFlat {neg : Bool} {fs : Array Field} {ks : List Bool} (hu : P.underlying t = some (.struct fs)) (hq : P.eqGuardType P.depth t = false) (hk : flatT P 20 t = some ks) (hx : opd x = some ax) (hy : opd y = some ay) :
    PureOk P (.binOp (if neg then .neq else .eql) t x y t2) (vEqFlat neg ks ax ay) := by
  intro tm ret r h
  obtain ⟨a, e1, h1⟩ := onAgg_some h
  obtain ⟨b, e2, h2⟩ := onAgg_some h1
  obtain ⟨hb, h3⟩ := guard_some h2
  rw [andB_eq, Bool.and_eq_true, lenS_eq, lenS_eq] at hb
  have la : a.length = ks.length := Nat.eq_of_beq_eq_true hb.1
  have lb : b.length = ks.length := Nat.eq_of_beq_eq_true hb.2
  cases hf : flatEq ks a b with
  | none => rw [hf] at h3; exact none_some h3
  | some c =>
    rw [hf] at h3
    have h4 : retB (xorB neg c) ret = some r := h3
    rw [retB_eq, xorB_eq] at h4
    refine ⟨_, h4, fun ρ ce he => ⟨_, .s (.bool _), fun O w hO => ?_⟩⟩
    obtain ⟨A, hA1, hA2⟩ := (ev1 he hx (by simp [Op.operands]) e1).agg'
    obtain ⟨B, hB1, hB2⟩ := (ev1 he hy (by simp [Op.operands]) e2).agg'
    have hrun := run_flat (P := P) (d := 19) (D := 9980 + 19) (fun t ks h => flat_good 19 t ks h 9980) hu hk hA2 hB2 la lb hf w
    refine run_eqOp hO (by rw [hA1, hB1]; exact run_eqGuard_agg w _ t x y A B hq) (fun op => ?_) (by rw [hA1, hB1]; exact run_equal hrun)
    rw [hA1, hB1]
    exact bin_eq _ _ (fun op => ⟨fun h => by subst h; rfl, fun h => by subst h; rfl⟩) op
end
end Go.Bb
