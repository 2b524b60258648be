/-
  One operation after another: a region in the order of its text.
-/
import Derived.Test.YtjdcodjoheckcaaGreatDoorBbStep
namespace Go.Bb
variable {P : Program}

theorem gs_put_same (tm : Tm) (t : Nat) (v : AV) : gs (tp t) (tm.put (tp t) (some v)) = v := by
  unfold gs; rw [get_put_same]; rfl
theorem gs_put_other (tm : Tm) {t t' : Nat} (v : AV) (h : t' ≠ t) : gs (tp t') (tm.put (tp t) (some v)) = gs (tp t') tm := by
  unfold gs; rw [get_put_other _ _ _ _ (fun e => h (tp_inj e))]

theorem TmR.put {ρ : Emb} {tm : Tm} {a : Array Value} {t : Nat} {v : AV} {cv : Value} (h : TmR ρ tm a) (hv : VR ρ v cv) (ht : t < a.size) : TmR ρ (tm.put (tp t) (some v)) (a.setIfInBounds t cv) := by
  intro t'
  by_cases he : t' = t
  · subst he; rw [gs_put_same]; simpa [ht] using hv
  · rw [gs_put_other _ _ he]
    have : (a.setIfInBounds t cv).getD t' undef = a.getD t' undef := by
      simp only [Array.getD_eq_getD_getElem?, Array.getElem?_setIfInBounds_ne (Ne.symm he)]
    rw [this]; exact h t'

theorem TmR.mono {ρ ρ' : Emb} {tm : Tm} {a : Array Value} (hs : Sub ρ ρ') (h : TmR ρ tm a) : TmR ρ' tm a := fun t => (h t).mono hs

/-- an operation's slot is written, in both -/
theorem TmR.putO {ρ : Emb} {tm : Tm} {a : Act} {d : Option Nat} {v : AV} {cv : Value} (h : TmR ρ tm a.tmps) (hv : VR ρ v cv) (ht : ∀ t, d = some t → t < a.tmps.size) :
    TmR ρ (match d.map tp with | none => tm | some p => tm.put p (some v)) (a.put d cv).tmps := by
  cases d with
  | none => exact h
  | some t => exact h.put hv (ht t rfl)

theorem size_put (a : Act) (d : Option Nat) (v : Value) : (a.put d v).tmps.size = a.tmps.size := by
  cases d <;> simp [Act.put]
theorem defers_put (a : Act) (d : Option Nat) (v : Value) : (a.put d v).defers = a.defers := by cases d <;> rfl

theorem vr_bool {ρ : Emb} {v : AV} {b : Bool} (h : VR ρ v (.bool b)) : v = .s (.bool b) := by cases h with | s h => cases h; rfl

/-- a guard, in both -/
theorem guard_ok {ρ : Emb} {tm : Tm} {tmps : Array Value} {ops : Array Oper} {o : Oper} {j t : Nat} {want : Bool} (ht : VR ρ (gs (tp t) tm) (tmps.getD t undef)) (hg : o.guard = some (j, want)) (hj : (ops[j]?).bind (·.dst) = some t) :
    (Region.wanted o (yielded ops tmps) = true ∧ gs (tp t) tm = .s (.bool want)) ∨ (Region.wanted o (yielded ops tmps) = false ∧ gs (tp t) tm ≠ .s (.bool want)) := by
  have hy : yielded ops tmps j = match tmps[t]? with | some (.bool b) => some b | _ => none := by
    unfold yielded; rw [hj]; rfl
  have hw : Region.wanted o (yielded ops tmps) = (yielded ops tmps j == some want) := by unfold Region.wanted; rw [hg]
  rw [hw, hy]
  cases hv : tmps[t]? with
  | none =>
    refine .inr ⟨rfl, fun he => ?_⟩
    rw [he] at ht
    have : tmps.getD t undef = undef := by simp [Array.getD_eq_getD_getElem?, hv]
    rw [this] at ht
    have := ht.bool; simp [undef] at this
  | some v =>
    have hv' : tmps.getD t undef = v := by simp [Array.getD_eq_getD_getElem?, hv]
    rw [hv'] at ht
    by_cases hb : ∃ b, v = .bool b
    · obtain ⟨b, rfl⟩ := hb
      have := vr_bool ht
      rw [this]
      by_cases hbw : b = want
      · subst hbw; exact .inl ⟨by simp, rfl⟩
      · exact .inr ⟨by simp [hbw], fun e => by injection e with e; injection e with e; exact hbw e⟩
    · refine .inr ⟨?_, fun he => ?_⟩
      · cases v <;> first | rfl | exact absurd ⟨_, rfl⟩ hb
      · rw [he] at ht; exact hb ⟨_, ht.bool⟩

theorem guardK_some {p : Path} {want : Bool} {tm : Tm} {yes no : R} {r : AV × AH} (h : guardK (some (p, want)) tm yes no = some r) : (gs p tm = .s (.bool want) ∧ yes = some r) ∨ (gs p tm ≠ .s (.bool want) ∧ no = some r) := by
  unfold guardK at h
  cases he : gs p tm with
  | s v =>
    have h' : AV.rec (motive := fun _ => R)
      (fun v => SV.rec (motive := fun _ => R) (fun b => iteR (xorB b want) no yes) (fun _ _ => no) (fun _ => no) (fun _ _ => no) no (fun _ _ => no) no (fun _ _ _ _ _ => no) no (fun _ => no) (fun _ _ => no) no (fun _ => no) v)
      (fun _ => no) (fun _ => no) (gs p tm) = some r := h
    rw [he] at h'
    cases v <;> first | exact .inr ⟨by simp, h'⟩ | skip
    rename_i b
    rcases iteR_some (b := xorB b want) (t := no) (f := yes) h' with ⟨hx, h1⟩ | ⟨hx, h1⟩
    · exact .inr ⟨fun e => by injection e with e; injection e with e; subst e; cases b <;> simp [xorB] at hx, h1⟩
    · exact .inl ⟨by cases b <;> cases want <;> first | rfl | simp [xorB] at hx, h1⟩
  | agg =>
    have h' : AV.rec (motive := fun _ => R)
      (fun v => SV.rec (motive := fun _ => R) (fun b => iteR (xorB b want) no yes) (fun _ _ => no) (fun _ => no) (fun _ _ => no) no (fun _ _ => no) no (fun _ _ _ _ _ => no) no (fun _ => no) (fun _ _ => no) no (fun _ => no) v)
      (fun _ => no) (fun _ => no) (gs p tm) = some r := h
    rw [he] at h'; exact .inr ⟨by simp, h'⟩
  | tup =>
    have h' : AV.rec (motive := fun _ => R)
      (fun v => SV.rec (motive := fun _ => R) (fun b => iteR (xorB b want) no yes) (fun _ _ => no) (fun _ => no) (fun _ _ => no) no (fun _ _ => no) no (fun _ _ _ _ _ => no) no (fun _ => no) (fun _ _ => no) no (fun _ => no) v)
      (fun _ => no) (fun _ => no) (gs p tm) = some r := h
    rw [he] at h'; exact .inr ⟨by simp, h'⟩

/-! ### Calls -/
def EnterF (P : Program) (f : Nat) : Prop := ∀ (args : Array Value) (w : World), (callFunc f args).run P w = .ok (.enter f args) w

/-- a call comes to a value and a heap, in the model as in the abstract machine -/
def CallRel (P : Program) (f : Nat) (args : List AV) (h : AH) (v : AV) (h' : AH) : Prop :=
  EnterF P f ∧ ∀ (ρ : Emb) (w : World) (cargs : Array Value), HR ρ (heapOf h) h.next w → All2 (VR ρ) args cargs.toList →
    Calls P f cargs w fun e w' => ∃ ρ' cv, e = .returned cv ∧ VR ρ' v cv ∧ HR ρ' (heapOf h') h'.next w' ∧ Ext ρ (heapOf h) h.next w ρ' (heapOf h') h'.next w'

def CallsOk (P : Program) (call : CallT) : Prop :=
  ∀ (f : Nat) (args : List AV) (h : AH) (k : AV → AH → R) (r : AV × AH), call f args h k = some r → ∃ v h', k v h' = some r ∧ CallRel P f args h v h'

/-- a slot is written, or none -/
noncomputable def putT (tm : Tm) (d : Option Path) (v : AV) : Tm := match d with | none => tm | some p => tm.put p (some v)
theorem putK_putT (d : Option Path) (v : AV) (tm : Tm) (k : Tm → R) : putK d v tm k = k (putT tm d v) := putK_eq d v tm k

/-- an operation, in the model: it answers v, and makes of the heap h the heap h' -/
def EffRel (P : Program) (o : Oper) (tm : Tm) (h : AH) (v : AV) (h' : AH) : Prop :=
  ∀ (ρ : Emb) (a : Act) (w : World), HR ρ (heapOf h) h.next w → EvR ρ tm a.eval o.op.operands → ∀ (K : Act → World → Prop) (Q : Exit → Act → World → Prop),
    (∀ ρ' cv w', VR ρ' v cv → HR ρ' (heapOf h') h'.next w' → Ext ρ (heapOf h) h.next w ρ' (heapOf h') h'.next w' → K (a.put o.dst cv) w') → o.wp P a w K Q
def ValRel (P : Program) (o : Oper) (tm : Tm) (v : AV) : Prop :=
  ∀ (ρ : Emb) (ce : Operand → Value), EvR ρ tm ce o.op.operands → ∃ cv, VR ρ v cv ∧ ∀ w, (execOp ce o).run P w = .ok (.value cv) w
def ReadRel (P : Program) (o : Oper) (tm : Tm) (h : AH) (v : AV) : Prop :=
  ∀ (ρ : Emb) (ce : Operand → Value) (w : World) (G : Heap) (n : Nat), (∀ p ob, ρ p ≠ none → heapOf h p = some ob → G p = some ob) → HR ρ G n w → EvR ρ tm ce o.op.operands →
    ∃ cv, VR ρ v cv ∧ (execOp ce o).run P w = .ok (.value cv) w
def NewRel (P : Program) (o : Oper) (tm : Tm) (p : Path) (ob : AO) (v : AV) : Prop :=
  ∀ (ρ : Emb) (ce : Operand → Value) (w : World), EvR ρ tm ce o.op.operands → ∃ (cob : Obj) (sz : Nat), (∀ a, (w.alloc cob).frozen? a = w.frozen? a) ∧
    ∀ ρ', Sub ρ ρ' → ρ' p = some ⟨w.heap.size, 0, sz⟩ → OR ρ' ⟨w.heap.size, 0, sz⟩ (some cob) ob ∧ ∃ cv, VR ρ' v cv ∧ (execOp ce o).run P w = .ok (.value cv) (w.alloc cob)

theorem call_args {ρ : Emb} {tm : Tm} {ce : Operand → Value} {c : Call} (he : EvR ρ tm ce c.operands) {args : List Opd} (ha : opds c.args.toList = some args) : All2 (VR ρ) (args.map fun x => x tm) (c.args.map ce).toList := by
  have hrel := opds_rel (ρ := ρ) (tm := tm) (ce := ce) ha (fun x hx ax hax => he x (by simp [Call.operands]; exact .inr (by simpa using hx)) ax hax)
  simpa using (All2.map_right (f := ce) (All2.map_left (f := fun x : Opd => x tm) hrel))

theorem step_call {call : CallT} (hcall : CallsOk P call) {o : Oper} {d : Option Path} {c : Call} (ho : o.op = .call c) {tm : Tm} {h : AH} {f : Nat} {vs : List AV} {k : Tm → AH → R} {r : AV × AH}
    (hh : (call f vs h fun v h => putK d v tm fun tm => k tm h) = some r)
    (hargs : ∀ (ρ : Emb) (a : Act), EvR ρ tm a.eval c.operands → ∃ (dd : Deferred) (cargs : Array Value), (∀ w, (resolve a.eval c o.type).run P w = .ok dd w) ∧ (invoke dd.target dd.args = callFunc f cargs) ∧ All2 (VR ρ) vs cargs.toList) :
    ∃ v h', k (putT tm d v) h' = some r ∧ EffRel P o tm h v h' := by
  obtain ⟨v, h', h1, henter, hrel⟩ := hcall f vs h _ r hh
  rw [putK_putT] at h1
  refine ⟨v, h', h1, fun ρ a w hr he K Q hK => ?_⟩
  rw [ho] at he
  obtain ⟨dd, cargs, hres, hinv, hvs⟩ := hargs ρ a he
  have hrun : (execOp a.eval o).run P w = .ok (.enter f cargs) w := by
    simp only [execOp, ho, Sem.run_bind, hres, Result.andThen_ok, hinv, henter cargs w]
  unfold Oper.wp
  rw [hrun, Oper.upon_enter]
  refine (hrel ρ w cargs hr hvs).mono ?_
  rintro e w' ⟨ρ', cv, rfl, q1, q2, q3⟩
  exact hK ρ' cv w' q1 q2 q3

/-- one operation, wherever it stands; new memory is told by itself -/
theorem step_any {call : CallT} (hcall : CallsOk P call) {o : Oper} {s : AStep} (hs : StepOk P o.op (o.dst.map tp) s) {tm : Tm} {h : AH} {id : Option Nat} {k : Tm → AH → R} {r : AV × AH} (hh : stepK s call id tm h k = some r) :
    (∃ d po v, s = .pure d po ∧ o.dst.map tp = some d ∧ k (putT tm (o.dst.map tp) v) h = some r ∧ ValRel P o tm v) ∨
    (∃ d ro v, s = .read d ro ∧ o.dst.map tp = some d ∧ k (putT tm (o.dst.map tp) v) h = some r ∧ ReadOk P o.op ro ∧ ReadRel P o tm h v) ∨
    (∃ d lo ob v, s = .alloc d lo ∧ o.dst.map tp = some d ∧ k (putT tm (o.dst.map tp) v) (match id with | none => ⟨h.g.put (tp h.next) (some ob), h.next + 1⟩ | some i => ⟨h.g.put (tp i) (some ob), h.next⟩) = some r ∧
      NewRel P o tm (match id with | none => tp h.next | some i => tp i) ob v) ∨
    (s.writes = true ∧ ∃ v h', k (putT tm (o.dst.map tp) v) h' = some r ∧ EffRel P o tm h v h') := by
  cases s with
  | pure d po =>
    obtain ⟨hd, hp⟩ := hs
    obtain ⟨v, h1, hrel⟩ := hp tm _ r hh
    rw [setV_eq] at h1
    exact .inl ⟨d, po, v, rfl, hd, by rw [hd]; exact h1, fun ρ ce he => by obtain ⟨cv, q1, q2⟩ := hrel ρ ce he; exact ⟨cv, q1, fun w => q2 o w rfl⟩⟩
  | read d ro =>
    obtain ⟨hd, hp⟩ := hs
    obtain ⟨v, h1, hrel⟩ := hp tm h _ r hh
    rw [setV_eq] at h1
    exact .inr (.inl ⟨d, ro, v, rfl, hd, by rw [hd]; exact h1, hp, fun ρ ce w G n hs hr he => by obtain ⟨cv, q1, q2⟩ := hrel ρ ce w G n hs hr he; exact ⟨cv, q1, q2 o rfl⟩⟩)
  | alloc d lo =>
    obtain ⟨hd, hp⟩ := hs
    refine .inr (.inr (.inl ?_))
    cases id with
    | none =>
      have hh' : (onH h fun g n => pathK n fun p => lo tm p fun ob v => setO p g (some ob) fun g => forceN (Nat.succ n) fun nx => setV d tm v fun tm => k tm ⟨g, nx⟩) = some r := hh
      rw [onH_eq, pathK_eq] at hh'
      obtain ⟨ob, v, h1, hrel⟩ := hp tm _ _ r hh'
      rw [setO_eq, forceN_eq, setV_eq] at h1
      refine ⟨d, lo, ob, v, rfl, hd, by rw [hd]; exact h1, fun ρ ce w he => ?_⟩
      obtain ⟨cob, sz, hf, hrel'⟩ := hrel ρ ce w he
      exact ⟨cob, sz, hf, fun ρ' q1 q2 => by obtain ⟨q3, cv, q4, q5⟩ := hrel' ρ' q1 q2; exact ⟨q3, cv, q4, q5 o rfl⟩⟩
    | some i =>
      have hh' : (onH h fun g n => pathK i fun p => lo tm p fun ob v => setO p g (some ob) fun g => setV d tm v fun tm => k tm ⟨g, n⟩) = some r := hh
      rw [onH_eq, pathK_eq] at hh'
      obtain ⟨ob, v, h1, hrel⟩ := hp tm _ _ r hh'
      rw [setO_eq, setV_eq] at h1
      refine ⟨d, lo, ob, v, rfl, hd, by rw [hd]; exact h1, fun ρ ce w he => ?_⟩
      obtain ⟨cob, sz, hf, hrel'⟩ := hrel ρ ce w he
      exact ⟨cob, sz, hf, fun ρ' q1 q2 => by obtain ⟨q3, cv, q4, q5⟩ := hrel' ρ' q1 q2; exact ⟨q3, cv, q4, q5 o rfl⟩⟩
  | eff d eo =>
    obtain ⟨hd, hp⟩ := hs
    obtain ⟨v, h', h1, hrel⟩ := hp tm h _ r hh
    rw [putK_putT] at h1
    refine .inr (.inr (.inr ⟨rfl, v, h', by rw [hd]; exact h1, fun ρ a w hr he K Q hK => ?_⟩))
    obtain ⟨ρ', cv, w', q1, q2, q3, q4⟩ := hrel ρ a.eval w hr he
    have key : K (a.put o.dst cv) w' := hK ρ' cv w' q1 q2 q3
    unfold Oper.wp
    rcases q4 o rfl with q5 | ⟨q5, rfl⟩
    · rw [q5, Oper.upon_value]; exact key
    · rw [q5, Oper.upon_skip]; exact key
  | call d f args =>
    obtain ⟨hd, c, ho, hc, ha, _⟩ := hs
    have h1 := argsK_some (k := fun vs => call f vs h fun v h => putK d v tm fun tm => k tm h) hh
    refine .inr (.inr (.inr ⟨rfl, ?_⟩))
    rw [hd]
    refine step_call hcall ho h1 (fun ρ a htm => ⟨{ target := .fn (.func f) #[], args := #[] ++ c.args.map a.eval }, c.args.map a.eval, fun w => ?_, ?_, call_args htm ha⟩)
    · simp [resolve, hc, Act.eval, Deferred.ofValue]
    · simp [invoke]
  | callv d fo args =>
    obtain ⟨hd, c, fx, ho, hc, hfo, ha⟩ := hs
    refine .inr (.inr (.inr ⟨rfl, ?_⟩))
    have hh' : (onS (fo tm) fun v => fnS (fun g caps => argsK args tm fun vs => iteR (Nat.ble 1000000 g)
      (forceN (Nat.sub g 1000000) fun g => call g (appV (capArgs caps) vs) h fun v h => putK d v tm fun tm => k tm h)
      (call g (appV vs (capArgs caps)) h fun v h => putK d v tm fun tm => k tm h)) v) = some r := hh
    cases hv : fo tm with
    | agg => rw [hv] at hh'; exact none_some hh'
    | tup => rw [hv] at hh'; exact none_some hh'
    | s v =>
      rw [hv] at hh'
      cases v <;> first | exact none_some hh' | skip
      rename_i g caps
      have h0 := argsK_some (k := fun vs => iteR (Nat.ble 1000000 g)
        (forceN (Nat.sub g 1000000) fun g => call g (appV (capArgs caps) vs) h fun v h => putK d v tm fun tm => k tm h)
        (call g (appV vs (capArgs caps)) h fun v h => putK d v tm fun tm => k tm h)) (tm := tm) (l := args) hh'
      rw [hd]
      have key : ∀ {ρ : Emb} {cs : List (Path × Nat)} {l : List Value}, All2 (CapR ρ) cs l → All2 (VR ρ) (capArgs cs) l := by
        intro ρ cs l hc
        induction hc with
        | nil => exact .nil
        | cons h _ ih => obtain ⟨lc, h1, h2⟩ := h; exact .cons (by rw [h2]; exact .s (.ptr h1)) ih
      rcases iteR_some (b := Nat.ble 1000000 g) h0 with ⟨hg, h1⟩ | ⟨hg, h1⟩
      · rw [forceN_eq, appV_eq] at h1
        have hg' : 1000000 ≤ g := Nat.le_of_ble_eq_true hg
        refine step_call hcall ho h1 (fun ρ a he => ?_)
        have hfv := he fx (by simp [Call.operands, hc]) fo hfo
        rw [hv] at hfv
        rcases hfv.fn with ⟨hlt, _⟩ | ⟨g', id, off, l, rfl, rfl, hl, hfv1⟩
        · omega
        rw [show Nat.sub (g' + 1000000) 1000000 = g' from Nat.add_sub_cancel _ _]
        refine ⟨{ target := .fn (.func g') #[], args := #[.pointer (some (l.at off))] ++ c.args.map a.eval }, #[.pointer (some (l.at off))] ++ c.args.map a.eval, fun w => ?_, ?_, ?_⟩
        · simp [resolve, hc, hfv1, Deferred.ofValue]
        · simp [invoke]
        · rw [Array.toList_append]
          exact All2.append (key (.cons ⟨l, hl, rfl⟩ .nil)) (call_args he ha)
      · rw [appV_eq] at h1
        have hg' : ¬ 1000000 ≤ g := fun hle => by rw [Nat.ble_eq_true_of_le hle] at hg; cases hg
        refine step_call hcall ho h1 (fun ρ a he => ?_)
        have hfv := he fx (by simp [Call.operands, hc]) fo hfo
        rw [hv] at hfv
        rcases hfv.fn with ⟨_, vs, hfv1, hcaps⟩ | ⟨g', _, _, _, rfl, _⟩
        case inr => omega
        refine ⟨{ target := .fn (.func g) vs, args := #[] ++ c.args.map a.eval }, c.args.map a.eval ++ vs, fun w => ?_, ?_, ?_⟩
        · simp [resolve, hc, hfv1, Deferred.ofValue]
        · simp [invoke]
        · rw [Array.toList_append]
          exact (call_args he ha).append (key hcaps)
  | bad => exact none_some hh

theorem ValRel.eff {o : Oper} {tm : Tm} {h : AH} {v : AV} (hv : ValRel P o tm v) : EffRel P o tm h v h := fun ρ a w hr he K Q hK => by
  obtain ⟨cv, q1, q2⟩ := hv ρ a.eval he
  unfold Oper.wp; rw [q2 w, Oper.upon_value]
  exact hK ρ cv w q1 hr (Ext.refl _ _ _ _)
theorem ReadRel.eff {o : Oper} {tm : Tm} {h : AH} {v : AV} (hv : ReadRel P o tm h v) : EffRel P o tm h v h := fun ρ a w hr he K Q hK => by
  obtain ⟨cv, q1, q2⟩ := hv ρ a.eval w (heapOf h) h.next (fun _ _ _ h => h) hr he
  unfold Oper.wp; rw [q2, Oper.upon_value]
  exact hK ρ cv w q1 hr (Ext.refl _ _ _ _)
theorem NewRel.eff {o : Oper} {tm : Tm} {h : AH} {ob : AO} {v : AV} (hv : NewRel P o tm (tp h.next) ob v) : EffRel P o tm h v ⟨h.g.put (tp h.next) (some ob), h.next + 1⟩ := fun ρ a w hr he K Q hK => by
  obtain ⟨cob, sz, hf, hrel'⟩ := hv ρ a.eval w he
  have hfresh : ρ (tp h.next) = none := hr.fresh _ (Nat.le_refl _)
  obtain ⟨q0, cv, q1, q2⟩ := hrel' (ins ρ (tp h.next) ⟨w.heap.size, 0, sz⟩) (sub_ins hfresh) (ins_same _ _ _)
  unfold Oper.wp; rw [q2, Oper.upon_value]
  refine hK _ cv _ q1 ?_ ?_
  · rw [heapOf_put]; exact hr.alloc hfresh (Nat.le_succ _) (Nat.lt_succ_self _) q0
  · rw [heapOf_put]; exact (Ext.refl _ _ _ _).alloc hfresh (Nat.le_refl _) (Nat.le_succ _) hf

theorem stepK_ok {call : CallT} (hcall : CallsOk P call) {o : Oper} {s : AStep} (hs : StepOk P o.op (o.dst.map tp) s) {tm : Tm} {h : AH} {k : Tm → AH → R} {r : AV × AH} (hh : stepK s call none tm h k = some r) :
    ∃ v h', k (putT tm (o.dst.map tp) v) h' = some r ∧ EffRel P o tm h v h' := by
  rcases step_any hcall hs hh with ⟨_, _, v, _, _, h1, h2⟩ | ⟨_, _, v, _, _, h1, _, h2⟩ | ⟨_, _, ob, v, _, _, h1, h2⟩ | ⟨_, v, h', h1, h2⟩
  · exact ⟨v, h, h1, h2.eff⟩
  · exact ⟨v, h, h1, h2.eff⟩
  · exact ⟨v, _, h1, NewRel.eff h2⟩
  · exact ⟨v, h', h1, h2⟩

/-! ### A region in the order of its text -/
theorem stepD_ok (hE : ExtOk P) (o : Op) (d : Option Path) : StepOk P o d (stepD P o d) := by
  have := stepOf_ok hE o d
  unfold stepD
  split
  · trivial
  · exact this
theorem stepL_ok (hE : ExtOk P) (b : Bool) (o : Op) (d : Option Path) : StepOk P o d (stepL P b o d) := by
  unfold stepL
  split
  · split
    · rename_i hu
      split
      · rename_i hs hz
        split
        · rename_i hp
          split
          · rename_i hc
            cases d with
            | none => trivial
            | some d => exact ⟨rfl, alloc_lit hu hs hz hp hc.1 hc.2⟩
          · trivial
        · trivial
      · trivial
    · trivial
  · exact stepD_ok hE _ _
theorem stepD_dst (hE : ExtOk P) (o : Op) (d : Option Path) : (stepD P o d).dst = d := by
  have hs := stepOf_ok hE o d
  unfold stepD
  cases h : stepOf P o d <;> rw [h] at hs
  case pure => exact hs.1.symm
  case read => exact hs.1.symm
  case alloc => exact hs.1.symm
  case eff => exact hs.1.symm
  case call => exact hs.1.symm
  case callv => exact hs.1.symm
  case bad => rfl

theorem stepL_dst (hE : ExtOk P) (b : Bool) (o : Op) (d : Option Path) : (stepL P b o d).dst = d := by
  unfold stepL
  split
  · split
    · split
      · split
        · split
          · cases d <;> rfl
          · rfl
        · rfl
      · rfl
    · rfl
  · exact stepD_dst hE _ _

/-- an operation's guard is met, or not -/
def GYes (ops : Array Oper) (o : Oper) (tm : Tm) : Prop := ∀ j want, o.guard = some (j, want) → ∃ t, (ops[j]?).bind (·.dst) = some t ∧ gs (tp t) tm = .s (.bool want)
def GNo (ops : Array Oper) (o : Oper) (tm : Tm) : Prop := ∃ j want t, o.guard = some (j, want) ∧ (ops[j]?).bind (·.dst) = some t ∧ gs (tp t) tm ≠ .s (.bool want)
/-- what an operation looks at is the same in both -/
def LookR (ops : Array Oper) (ρ : Emb) (o : Oper) (tm : Tm) (tmps : Array Value) : Prop := ∀ t ∈ o.looksAt ops, VR ρ (gs (tp t) tm) (tmps.getD t undef)
theorem mem_looks {ops : Array Oper} {o : Oper} {j t : Nat} {want : Bool} (hg : o.guard = some (j, want)) (hj : (ops[j]?).bind (·.dst) = some t) : t ∈ o.looksAt ops := by
  unfold Oper.looksAt; rw [hg]; simp only []; rw [hj]; simp
theorem GYes.wanted {ops : Array Oper} {o : Oper} {tm : Tm} (hg : GYes ops o tm) {ρ : Emb} {tmps : Array Value} (h : LookR ops ρ o tm tmps) : Region.wanted o (yielded ops tmps) = true := by
  cases hgu : o.guard with
  | none => simp [Region.wanted, hgu]
  | some jw =>
    obtain ⟨j, want⟩ := jw
    obtain ⟨t, h1, h2⟩ := hg j want hgu
    rcases guard_ok (h t (mem_looks hgu h1)) hgu h1 with ⟨h3, _⟩ | ⟨_, h3⟩
    · exact h3
    · exact absurd h2 h3
theorem GNo.unwanted {ops : Array Oper} {o : Oper} {tm : Tm} (hg : GNo ops o tm) {ρ : Emb} {tmps : Array Value} (h : LookR ops ρ o tm tmps) : Region.wanted o (yielded ops tmps) = false := by
  obtain ⟨j, want, t, hgu, h1, h2⟩ := hg
  rcases guard_ok (h t (mem_looks hgu h1)) hgu h1 with ⟨_, h3⟩ | ⟨h3, _⟩
  · exact absurd h3 h2
  · exact h3

/-- an operation with its guard -/
theorem operOf_none {ops : Array Oper} {o : Oper} (hg : o.guard = none) : operOf P ops o = { guard := none, step := stepL P (litOf ops o) o.op (o.dst.map tp) } := by unfold operOf; rw [hg]
theorem operOf_some {ops : Array Oper} {o : Oper} {j t : Nat} {want : Bool} (hg : o.guard = some (j, want)) (hj : (ops[j]?).bind (·.dst) = some t) : operOf P ops o = { guard := some (tp t, want), step := stepL P (litOf ops o) o.op (o.dst.map tp) } := by
  unfold operOf; rw [hg]; simp only [hj]
theorem operOf_bad {ops : Array Oper} {o : Oper} {j : Nat} {want : Bool} (hg : o.guard = some (j, want)) (hj : (ops[j]?).bind (·.dst) = none) : operOf P ops o = { guard := none, step := .bad (o.dst.map tp) } := by
  unfold operOf; rw [hg]; simp only [hj]
theorem operK_cases (hE : ExtOk P) (ops : Array Oper) (o : Oper) {call : CallT} {id : Option Nat} {tm : Tm} {h : AH} {k : Tm → AH → R} {r : AV × AH} (hh : operK (operOf P ops o) call id tm h k = some r) :
    (GYes ops o tm ∧ (operOf P ops o).step = stepL P (litOf ops o) o.op (o.dst.map tp) ∧ stepK (stepL P (litOf ops o) o.op (o.dst.map tp)) call id tm h k = some r) ∨ (GNo ops o tm ∧ k (putT tm (o.dst.map tp) undefA) h = some r) := by
  cases hg : o.guard with
  | none =>
    rw [operOf_none hg] at hh ⊢
    exact .inl ⟨fun j w h => (by rw [hg] at h; cases h), rfl, hh⟩
  | some jw =>
    obtain ⟨j, want⟩ := jw
    cases hj : (ops[j]?).bind (·.dst) with
    | none => rw [operOf_bad hg hj] at hh; exact none_some hh
    | some t =>
      rw [operOf_some hg hj] at hh ⊢
      rcases guardK_some (no := putK (stepL P (litOf ops o) o.op (o.dst.map tp)).dst undefA tm fun tm => k tm h) hh with ⟨h1, h2⟩ | ⟨h1, h2⟩
      · exact .inl ⟨fun j' w' h => by rw [hg] at h; injection h with h; injection h with e1 e2; subst e1; subst e2; exact ⟨t, hj, h1⟩, rfl, h2⟩
      · exact .inr ⟨⟨j, want, t, hg, hj, h1⟩, by rw [putK_putT, stepL_dst hE] at h2; exact h2⟩

theorem opsK_ok (hE : ExtOk P) {call : CallT} (hcall : CallsOk P call) (ops : Array Oper) (nt : Nat) : ∀ (l : List Oper), (∀ o ∈ l, ∀ d, o.dst = some d → d < nt) → ∀ {tm : Tm} {h : AH} {k : Tm → AH → R} {r : AV × AH},
    opsK (l.map (operOf P ops)) call tm h k = some r → ∃ tm' h', k tm' h' = some r ∧
      ∀ (ρ : Emb) (a : Act) (w : World) (Q : Exit → Act → World → Prop), HR ρ (heapOf h) h.next w → TmR ρ tm a.tmps → nt ≤ a.tmps.size → a.defers = [] →
        (∀ ρ' a' w', HR ρ' (heapOf h') h'.next w' → TmR ρ' tm' a'.tmps → nt ≤ a'.tmps.size → a'.defers = [] → Ext ρ (heapOf h) h.next w ρ' (heapOf h') h'.next w' → Q .normal a' w') → wpList P ops Q l a w
  | [], _, tm, h, k, r, hh => ⟨tm, h, hh, fun ρ a w Q hr htm hn hd hQ => hQ ρ a w hr htm hn hd (Ext.refl _ _ _ _)⟩
  | o :: l, hl, tm, h, k, r, hh => by
    have hh' : operK (operOf P ops o) call none tm h (fun tm h => opsK (l.map (operOf P ops)) call tm h k) = some r := hh
    have hdst : ∀ {a : Act}, nt ≤ a.tmps.size → ∀ t, o.dst = some t → t < a.tmps.size := fun hn t ht => Nat.lt_of_lt_of_le (hl o (by simp) t ht) hn
    rcases operK_cases hE ops o hh' with ⟨hw, _, h1⟩ | ⟨hw, h1⟩
    · obtain ⟨v, h2, h3, hrel⟩ := stepK_ok hcall (stepL_ok hE _ _ _) h1
      obtain ⟨tm', h', h4, hrest⟩ := opsK_ok hE hcall ops nt l (fun o ho => hl o (by simp [ho])) h3
      refine ⟨tm', h', h4, fun ρ a w Q hr htm hn hd hQ => ?_⟩
      unfold wpList
      rw [if_pos (hw.wanted fun t _ => htm t)]
      refine .inl (hrel ρ a w hr (EvR.of_tmps htm _) _ Q fun ρ' cv w' q1 q2 q3 => ?_)
      exact hrest ρ' _ w' Q q2 ((htm.mono q3.sub).putO q1 (hdst hn)) (by rw [size_put]; exact hn) (by rw [defers_put]; exact hd) fun ρ2 a2 w2 p1 p2 p3 p4 p5 => hQ ρ2 a2 w2 p1 p2 p3 p4 (q3.trans p5)
    · obtain ⟨tm', h', h4, hrest⟩ := opsK_ok hE hcall ops nt l (fun o ho => hl o (by simp [ho])) h1
      refine ⟨tm', h', h4, fun ρ a w Q hr htm hn hd hQ => ?_⟩
      unfold wpList
      rw [if_neg (by rw [hw.unwanted (ρ := ρ) fun t _ => htm t]; simp)]
      exact hrest ρ _ w Q hr (htm.putO undef_rel (hdst hn)) (by rw [size_put]; exact hn) (by rw [defers_put]; exact hd) hQ
end Go.Bb
