/-
  What a seat needs: the program's facts in the form that the evaluator takes, and what a run by it tells of the row.
-/
import Derived.Test.YtjdcodjoheckcaaGreatDoorBbDrawOk
import Derived.Laws.Externs
import Derived.RowKit3
import Derived.KernelRfl
namespace Go.Bb
variable {P : Program}

/-- every entry of a trie -/
def T.Each {α : Type} : (Path → α → Prop) → T α → Prop
  | _, .l => True
  | Q, .n v a b => (∀ x, v = some x → Q .z x) ∧ T.Each (fun p x => Q (.a p) x) a ∧ T.Each (fun p x => Q (.b p) x) b
theorem T.Each.get {α : Type} : ∀ {t : T α} {Q : Path → α → Prop}, T.Each Q t → ∀ p x, T.get p t = some x → Q p x
  | .l, Q, _, p, x, h => by rw [get_leaf] at h; cases h
  | .n v a b, Q, hq, .z, x, h => hq.1 x h
  | .n v a b, Q, hq, .a p, x, h => T.Each.get (Q := fun p x => Q (.a p) x) hq.2.1 p x h
  | .n v a b, Q, hq, .b p, x, h => T.Each.get (Q := fun p x => Q (.b p) x) hq.2.2 p x h

theorem T.Each.n {α : Type} {Q : Path → α → Prop} {v : Option α} {a b : T α} (h : ∀ x, v = some x → Q .z x) (ha : T.Each (fun p x => Q (.a p) x) a) (hb : T.Each (fun p x => Q (.b p) x) b) : T.Each Q (.n v a b) := ⟨h, ha, hb⟩
theorem T.Each.l {α : Type} {Q : Path → α → Prop} : T.Each Q .l := trivial

def FnOk (P : Program) (p : Path) (af : AFunc) : Prop := ∀ f, tp f = p → ∃ fn, P.funcs[f]? = some fn ∧ funcOf P fn = some af
theorem FnOk.no {Q : Path → AFunc → Prop} {p : Path} : ∀ x, (Option.none : Option AFunc) = some x → Q p x := fun _ h => by cases h
theorem FnOk.yes {p : Path} {c : AFunc} (i : Nat) {fn : Func} (hp : tp i = p) (hf : P.funcs[i]? = some fn) (hc : funcOf P fn = some c) : ∀ x, some c = some x → FnOk P p x := fun x h => by
  cases h
  intro f hf'
  obtain rfl : f = i := tp_inj (hf'.trans hp.symm)
  exact ⟨fn, hf, hc⟩
theorem progOk_of {t : T AFunc} (h : T.Each (FnOk P) t) : ProgOk P (fun i => T.get (tp i) t) := fun f af hf => h.get (tp f) af hf f rfl

theorem extOk_of (fl tr : Nat)
    (huniq : ((List.range P.funcs.size).all fun i => match P.funcs[i]? with | some fn => (fn.name != "math.archFloor" || i == fl) && (fn.name != "math.archTrunc" || i == tr) | none => true) = true)
    (hfl : ∀ fn, P.funcs[fl]? = some fn → Extern.findNext fn = none ∧ Extern.find fn = some (Extern.MathFloor.toIntegral "math.archFloor" .down))
    (htr : ∀ fn, P.funcs[tr]? = some fn → Extern.findNext fn = none ∧ Extern.find fn = some (Extern.MathFloor.toIntegral "math.archTrunc" .zero)) : ExtOk P := by
  intro f fn hf hb
  have hlt : f < P.funcs.size := (Array.getElem?_eq_some_iff.1 hf).1
  have hu := List.all_eq_true.1 huniq f (List.mem_range.2 hlt)
  rw [hf] at hu
  simp only [Bool.and_eq_true, Bool.or_eq_true, bne_iff_ne, ne_eq, beq_iff_eq] at hu
  refine ⟨fun hn x w => ?_, fun hn x w => ?_⟩
  · obtain rfl : f = fl := hu.1.resolve_left (fun h => h hn)
    obtain ⟨h1, h2⟩ := hfl fn hf
    exact run_callFunc_extern hf (by rw [hn]; rfl) hb h1 h2 #[x] w
  · obtain rfl : f = tr := hu.2.resolve_left (fun h => h hn)
    obtain ⟨h1, h2⟩ := htr fn hf
    exact run_callFunc_extern hf (by rw [hn]; rfl) hb h1 h2 #[x] w

theorem sumsOk_none : SumsOk P (fun _ => none) := fun f s hs => by cases hs

/-- of what was there nothing is changed -/
def Grown0 (w w' : World) : Prop := w.keptBut w' (fun _ => False) ∧ (∀ a, a.block < w.heap.size → w'.frozen? a = w.frozen? a) ∧ w.heap.size ≤ w'.heap.size

/-- where nothing was known of the world, it has only grown -/
theorem Ext.grown {ρ ρ' : Emb} {G G' : Heap} {n n' : Nat} {w w' : World} (h : Ext ρ G n w ρ' G' n' w') (hG : ∀ p, G p = none) : Grown0 w w' := by
  refine ⟨⟨h.os, h.output, fun i hi => ?_⟩, fun a ha => h.froz a ha fun p o l hp => by (rw [hG p] at hp; cases hp), h.size⟩
  have e : w'.heap[i]? = w.heap[i]? := h.keep i hi fun p o l hp => by rw [hG p] at hp; cases hp
  rw [e]
  cases ho : w.heap[i]? with
  | none => rfl
  | some o => cases o <;> simp

/-- is it true? -/
def isTrueV : AV → Bool
  | .s (.bool true) => true
  | _ => false
theorem isTrueV_eq {v : AV} (h : isTrueV v = true) : v = .s (.bool true) := by
  unfold isTrueV at h
  split at h
  · rfl
  · cases h
noncomputable def saysTrue (r : R) : Bool := Option.rec (motive := fun _ => Bool) false (fun x => isTrueV x.1) r
theorem saysTrue_some {r : R} (h : saysTrue r = true) : ∃ h', r = some (.s (.bool true), h') := by
  cases r with
  | none => cases h
  | some x =>
    obtain ⟨v, h'⟩ := x
    have h1 : isTrueV v = true := h
    exact ⟨h', by rw [isTrueV_eq h1]⟩

theorem hr_start (w : World) : HR (fun _ => none) (heapOf ⟨.l, 0⟩) 0 w :=
  ⟨fun _ _ => rfl, fun p o hp => (by unfold heapOf at hp; rw [get_leaf] at hp; cases hp), fun p _ o _ _ _ hp => (by unfold heapOf at hp; rw [get_leaf] at hp; cases hp)⟩

/-- A CLOSED CALL: what the evaluator says, the model says, at every world and tape. -/
theorem closed_true {prog : Nat → Option AFunc} {sums : SumT} (hE : ExtOk P) (hm : P.follows .mixedOrders = true) (hp : ProgOk P prog) (hsum : SumsOk P sums) {n f : Nat} (hh : saysTrue (callOf prog sums n f [] ⟨.l, 0⟩) = true) (w : World) :
    Calls P f #[] w fun e w' => e = .returned (.bool true) ∧ Grown0 w w' := by
  obtain ⟨h', h1⟩ := saysTrue_some hh
  obtain ⟨_, h2⟩ := calls_ok hE hm hp hsum h1
  refine (h2 (fun _ => none) w #[] (hr_start w) .nil).mono ?_
  rintro e w' ⟨ρ', cv, rfl, q1, _, q3⟩
  exact ⟨by rw [q1.bool], q3.grown fun p => by unfold heapOf; rw [get_leaf]⟩
end Go.Bb
