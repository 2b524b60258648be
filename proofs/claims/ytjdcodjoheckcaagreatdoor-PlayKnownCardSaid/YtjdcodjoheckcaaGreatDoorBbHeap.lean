/-
  The heap: where the abstract machine's objects lie in the world, what a step keeps, and the operations that read.
-/
import Derived.Test.YtjdcodjoheckcaaGreatDoorBbPure3
namespace Go.Bb
variable {P : Program}

abbrev Heap := Path → Option AO
noncomputable def heapOf (h : AH) : Heap := fun p => T.get p h.g

def EntR (ρ : Emb) (kd : IntKind) (e : Int × AV) (m : MapEntry) : Prop := m.key = .int kd e.1 ∧ VR ρ e.2 m.val

/-- none of a place's cells is shared with a string -/
def Calm (l : Loc) (fz : Nat × Nat) : Prop := ∀ i : Nat, l.base ≤ i → i < l.size → (decide (fz.1 ≤ i) && decide (i < fz.2)) = false
theorem calm0 (l : Loc) : Calm l (0, 0) := fun i _ _ => by simp

/-- an object lies at a place -/
def OR (ρ : Emb) (l : Loc) (o : Option Obj) : AO → Prop
  | .cells t m => ∃ c Ty fz, o = some (.cells c Ty fz) ∧ (l.base + m ≤ l.size ∧ l.size ≤ c.size) ∧ (∀ i s, T.get (tp i) t = some s → ∃ cv, c[l.base + i]? = some cv ∧ SR ρ s cv) ∧ (∀ i, m ≤ i → T.get (tp i) t = none) ∧ Calm l fz
  | .map kd es bs clk => ∃ ms, o = some (.map ms clk) ∧ All2 (EntR ρ kd) es ms.toList ∧ ms.toList.map (·.born) = bs
  | .ro t m => ∃ c Ty fz, o = some (.cells c Ty fz) ∧ (l.base + m ≤ l.size ∧ l.size ≤ c.size) ∧ (∀ i s, T.get (tp i) t = some s → ∃ cv, c[l.base + i]? = some cv ∧ SR ρ s cv)
  | .iter m since seen last => l.base = 0 ∧ ∃ lm, ρ m = some lm ∧ o = some (.mapIter (some lm.block) since seen.toArray last)
  | .lit cs => ∃ c Ty, o = some (.cells c Ty) ∧ l.base = 0 ∧ l.size = c.size ∧ All2 (SR ρ) cs c.toList

/-- the cells of an object that is looked at -/
def LR (ρ : Emb) (l : Loc) (o : Option Obj) (t : T SV) : Prop := ∃ c Ty fz, o = some (.cells c Ty fz) ∧ ∀ i s, T.get (tp i) t = some s → ∃ cv, c[l.base + i]? = some cv ∧ SR ρ s cv
theorem OR.look {ρ : Emb} {l : Loc} {b : Option Obj} {o : AO} {t : T SV} {m : Nat} (h : OR ρ l b o) (hl : o.look = some (t, m)) : LR ρ l b t := by
  cases o with
  | cells t' m' => cases hl; obtain ⟨c, T, fz, h1, _, h3, _⟩ := h; exact ⟨c, T, fz, h1, h3⟩
  | map => cases hl
  | ro t' m' => cases hl; obtain ⟨c, T, fz, h1, _, h3⟩ := h; exact ⟨c, T, fz, h1, h3⟩
  | iter => cases hl
  | lit => cases hl

structure HR (ρ : Emb) (G : Heap) (n : Nat) (w : World) : Prop where
  fresh : ∀ i, n ≤ i → ρ (tp i) = none
  live : ∀ p o, G p = some o → ∃ l, ρ p = some l ∧ OR ρ l w.heap[l.block]? o
  inj : ∀ p q o o' l l', G p = some o → G q = some o' → (o.wr = true ∨ o'.wr = true) → ρ p = some l → ρ q = some l' → p ≠ q → l.block ≠ l'.block

structure Ext (ρ : Emb) (G : Heap) (n : Nat) (w : World) (ρ' : Emb) (G' : Heap) (n' : Nat) (w' : World) : Prop where
  sub : Sub ρ ρ'
  size : w.heap.size ≤ w'.heap.size
  keep : ∀ b, b < w.heap.size → (∀ p o l, G p = some o → o.wr = true → ρ p = some l → l.block ≠ b) → w'.heap[b]? = w.heap[b]?
  own : ∀ p o l, G' p = some o → o.wr = true → ρ' p = some l → l.block < w.heap.size → ∃ q o' l', G q = some o' ∧ o'.wr = true ∧ ρ q = some l' ∧ l'.block = l.block ∧ l'.base ≤ l.base ∧ l.size ≤ l'.size
  dom : ∀ p o, G' p = some o → (∃ o', G p = some o') ∨ (∃ i, n ≤ i ∧ p = tp i)
  next : n ≤ n'
  os : w'.os = w.os
  output : w'.output = w.output
  froz : ∀ a, a.block < w.heap.size → (∀ p o l, G p = some o → o.lt = true → ρ p = some l → l.block ≠ a.block) → w'.frozen? a = w.frozen? a
  emb : ∀ p, ρ p = none → (∀ i, n ≤ i → p ≠ tp i) → ρ' p = none
  -- of a block some of whose cells an object has: its type, its size and its other cells
  typed : ∀ (b : Nat) c Ty fr, w.heap[b]? = some (.cells c Ty fr) → (∀ p o l, G p = some o → o.lt = true → ρ p = some l → l.block ≠ b) → ∃ c', w'.heap[b]? = some (.cells c' Ty fr) ∧ c'.size = c.size ∧ ∀ j : Nat, (∀ p o l, G p = some o → o.wr = true → ρ p = some l → l.block = b → j < l.base ∨ l.size ≤ j) → c'[j]? = c[j]?
  -- what is read alone was there before
  old : ∀ p o l, G' p = some o → o.wr = false → ρ' p = some l → (G p = some o ∧ ρ p = some l) ∨ w.heap.size ≤ l.block
  -- what is to be marked was so before
  lit : ∀ p o l, G' p = some o → o.lt = true → ρ' p = some l → l.block < w.heap.size → ∃ q o' l', G q = some o' ∧ o'.lt = true ∧ ρ q = some l' ∧ l'.block = l.block

theorem OR.mono {ρ ρ' : Emb} (hs : Sub ρ ρ') {l : Loc} {b : Option Obj} {o : AO} (h : OR ρ l b o) : OR ρ' l b o := by
  cases o with
  | cells t m =>
    obtain ⟨c, T, fz, h1, h2, h3, h4⟩ := h
    exact ⟨c, T, fz, h1, h2, fun i s hi => by obtain ⟨cv, h5, h6⟩ := h3 i s hi; exact ⟨cv, h5, h6.mono hs⟩, h4⟩
  | map kd es bs clk =>
    obtain ⟨ms, h1, h2, h3⟩ := h
    exact ⟨ms, h1, h2.mono fun _ _ x => ⟨x.1, x.2.mono hs⟩, h3⟩
  | iter m since seen last =>
    obtain ⟨h0, lm, h1, h2⟩ := h
    exact ⟨h0, lm, hs _ _ h1, h2⟩
  | lit cs =>
    obtain ⟨c, T, h1, h2, h3, h4⟩ := h
    exact ⟨c, T, h1, h2, h3, h4.mono fun _ _ x => x.mono hs⟩
  | ro t m =>
    obtain ⟨c, T, fz, h1, h2, h3⟩ := h
    exact ⟨c, T, fz, h1, h2, fun i s hi => by obtain ⟨cv, h5, h6⟩ := h3 i s hi; exact ⟨cv, h5, h6.mono hs⟩⟩

theorem HR.block_lt {ρ : Emb} {G : Heap} {n : Nat} {w : World} (h : HR ρ G n w) {p : Path} {o : AO} {l : Loc} (hp : G p = some o) (hl : ρ p = some l) : l.block < w.heap.size := by
  obtain ⟨l', h1, h2⟩ := h.live p o hp
  obtain rfl : l = l' := by rw [hl] at h1; exact Option.some.inj h1
  have : w.heap[l.block]? ≠ none := by
    cases o with
    | cells t m => obtain ⟨c, T, fz, h3, _⟩ := h2; rw [h3]; simp
    | map kd es => obtain ⟨ms, h3, _⟩ := h2; rw [h3]; simp
    | ro t m => obtain ⟨c, T, fz, h3, _⟩ := h2; rw [h3]; simp
    | iter => obtain ⟨_, lm, _, h3⟩ := h2; rw [h3]; simp
    | lit => obtain ⟨c, T, h3, _⟩ := h2; rw [h3]; simp
  rcases Nat.lt_or_ge l.block w.heap.size with h | h
  · exact h
  · exact absurd (Array.getElem?_eq_none h) this

theorem HR.at {ρ : Emb} {G : Heap} {n : Nat} {w : World} (h : HR ρ G n w) {p : Path} {o : AO} {l : Loc} (hp : G p = some o) (hl : ρ p = some l) : OR ρ l w.heap[l.block]? o := by
  obtain ⟨l', h1, h2⟩ := h.live p o hp
  obtain rfl : l = l' := by rw [hl] at h1; exact Option.some.inj h1
  exact h2

theorem HR.absent {ρ : Emb} {G : Heap} {n : Nat} {w : World} (h : HR ρ G n w) {p : Path} (hp : ρ p = none) : G p = none := by
  cases hg : G p with
  | none => rfl
  | some o => obtain ⟨l, h1, _⟩ := h.live p o hg; rw [hp] at h1; cases h1

/-- fewer objects -/
theorem HR.weaken {ρ : Emb} {G G' : Heap} {n : Nat} {w : World} (h : HR ρ G n w) (hs : ∀ p o, G' p = some o → G p = some o) : HR ρ G' n w :=
  ⟨h.fresh, fun p o hp => h.live p o (hs p o hp), fun p q o o' l l' hp hq hw => h.inj p q o o' l l' (hs p o hp) (hs q o' hq) hw⟩

/-- the tape moves on -/
theorem HR.world {ρ : Emb} {G : Heap} {n : Nat} {w w' : World} (h : HR ρ G n w) (hw : w'.heap = w.heap) : HR ρ G n w' :=
  ⟨h.fresh, fun p o hp => by rw [hw]; exact h.live p o hp, h.inj⟩

theorem frozen_heap {w w' : World} (h : w'.heap = w.heap) (a : Addr) : w'.frozen? a = w.frozen? a := by simp [World.frozen?, h]

theorem Ext.refl' (ρ : Emb) (G : Heap) (n : Nat) {w w' : World} (hw : w'.heap = w.heap) (ho : w'.os = w.os) (hu : w'.output = w.output) : Ext ρ G n w ρ G n w' :=
  ⟨.refl _, by rw [hw]; exact Nat.le_refl _, fun b _ _ => by rw [hw], fun p o l hp hw hl _ => ⟨p, o, l, hp, hw, hl, rfl, Nat.le_refl _, Nat.le_refl _⟩, fun p o h => .inl ⟨o, h⟩, Nat.le_refl _, ho, hu, fun a _ _ => frozen_heap hw a, fun _ h _ => h, fun b c Ty fr h _ => ⟨c, by rw [hw]; exact h, rfl, fun _ _ => rfl⟩, fun p o l hp _ hl => .inl ⟨hp, hl⟩, fun p o l hp ht hl _ => ⟨p, o, l, hp, ht, hl, rfl⟩⟩
theorem Ext.refl (ρ : Emb) (G : Heap) (n : Nat) (w : World) : Ext ρ G n w ρ G n w := .refl' ρ G n rfl rfl rfl

theorem Ext.trans {ρ ρ' ρ'' : Emb} {G G' G'' : Heap} {n n' n'' : Nat} {w w' w'' : World} (h : Ext ρ G n w ρ' G' n' w') (k : Ext ρ' G' n' w' ρ'' G'' n'' w'') : Ext ρ G n w ρ'' G'' n'' w'' := by
  refine ⟨h.sub.trans k.sub, Nat.le_trans h.size k.size, fun b hb hfree => ?_, fun p o l hp hw hl hlt => ?_, fun p o hp => ?_, Nat.le_trans h.next k.next, k.os.trans h.os, k.output.trans h.output, fun a ha hl => (k.froz a (Nat.lt_of_lt_of_le ha h.size) fun p o l hp ht hpl he => ?_).trans (h.froz a ha hl), fun p hp hi => k.emb p (h.emb p hp hi) fun i hn => hi i (Nat.le_trans h.next hn), fun b c Ty fr hb hlb => ?_, fun p o l hp hw hl => ?_, fun p o l hp ht hl hlt => ?_⟩
  · rw [k.keep b (Nat.lt_of_lt_of_le hb h.size) (fun p o l hp hw hl he => ?_), h.keep b hb hfree]
    obtain ⟨q, o', l', hq, hw', hl', he', _, _⟩ := h.own p o l hp hw hl (he ▸ hb)
    exact hfree q o' l' hq hw' hl' (he'.trans he)
  · obtain ⟨q, o', l', hq, hw', hl', he', hb1, hs1⟩ := k.own p o l hp hw hl (Nat.lt_of_lt_of_le hlt h.size)
    obtain ⟨q2, o2, l2, hq2, hw2, hl2, he2, hb2, hs2⟩ := h.own q o' l' hq hw' hl' (he' ▸ hlt)
    exact ⟨q2, o2, l2, hq2, hw2, hl2, he2.trans he', Nat.le_trans hb2 hb1, Nat.le_trans hs1 hs2⟩
  · rcases k.dom p o hp with ⟨o', ho'⟩ | ⟨i, hi, rfl⟩
    · exact h.dom p o' ho'
    · exact .inr ⟨i, Nat.le_trans h.next hi, rfl⟩
  · obtain ⟨q, o', l', hq, ht', hl', he'⟩ := h.lit p o l hp ht hpl (he ▸ ha)
    exact hl q o' l' hq ht' hl' (he'.trans he)
  · have hlt : b < w.heap.size := by
      rcases Nat.lt_or_ge b w.heap.size with h | h
      · exact h
      · rw [Array.getElem?_eq_none h] at hb; cases hb
    obtain ⟨c1, h1, h2, h3⟩ := h.typed b c Ty fr hb hlb
    obtain ⟨c2, k1, k2, k3⟩ := k.typed b c1 Ty fr h1 fun p o l hp ht hpl he => by
      obtain ⟨q, o', l', hq, ht', hl', he'⟩ := h.lit p o l hp ht hpl (he ▸ hlt)
      exact hlb q o' l' hq ht' hl' (he'.trans he)
    refine ⟨c2, k1, k2.trans h2, fun j hj => (k3 j fun p o l hp hw hl he => ?_).trans (h3 j hj)⟩
    obtain ⟨q, o', l', hq, hw', hl', he', hb1, hs1⟩ := h.own p o l hp hw hl (he ▸ hlt)
    rcases hj q o' l' hq hw' hl' (he'.trans he) with h | h
    · exact .inl (Nat.lt_of_lt_of_le h hb1)
    · exact .inr (Nat.le_trans hs1 h)
  · rcases k.old p o l hp hw hl with ⟨h1, h2⟩ | h1
    · exact h.old p o l h1 hw h2
    · exact .inr (Nat.le_trans h.size h1)
  · obtain ⟨q, o', l', hq, ht', hl', he'⟩ := k.lit p o l hp ht hl (Nat.lt_of_lt_of_le hlt h.size)
    obtain ⟨q2, o2, l2, hq2, ht2, hl2, he2⟩ := h.lit q o' l' hq ht' hl' (he' ▸ hlt)
    exact ⟨q2, o2, l2, hq2, ht2, hl2, he2.trans he'⟩

/-! ### What is read -/
theorem cell_at {w : World} {l : Loc} {off : Nat} {c : Array Value} {T : TypeId} {fz : Nat × Nat} {v : Value} (h : w.heap[l.block]? = some (.cells c T fz)) (hv : c[l.base + off]? = some v) : w.cell? (l.at off) = some v := by
  simp [World.cell?, Loc.at, h, hv]

/-- the cells of an object, some in a row -/
theorem cells_rel {ρ : Emb} {lc : Loc} {w : World} {t : T SV} (hO : LR ρ lc w.heap[lc.block]? t) : ∀ (l : List SV) (off : Nat), (∀ j, j < l.length → T.get (tp (off + j)) t = l[j]?) →
    ∃ cs : List Value, All2 (SR ρ) l cs ∧ ∀ j v, cs[j]? = some v → w.cell? (lc.at (off + j)) = some v
  | [], _, _ => ⟨[], .nil, fun j v h => by simp at h⟩
  | s :: l, off, h => by
    obtain ⟨cs, h1, h2⟩ := cells_rel hO l (off + 1) (fun j hj => by have := h (j + 1) (by simp; omega); rw [show off + 1 + j = off + (j + 1) by omega, this]; simp)
    obtain ⟨c, T, fz, e1, e3⟩ := hO
    obtain ⟨cv, hc1, hc2⟩ := e3 off s (by have := h 0 (by simp); simpa using this)
    refine ⟨cv :: cs, .cons hc2 h1, fun j v hj => ?_⟩
    cases j with
    | zero => simp at hj; subst hj; exact cell_at e1 hc1
    | succ j => rw [show off + (j + 1) = off + 1 + j by omega]; exact h2 j v (by simpa using hj)

/-- n cells from a place on: in the model -/
theorem getK_rel {h : AH} {id : Path} {off n : Nat} {k : List SV → R} {r : AV × AH} (hh : getK h id off n k = some r) :
    ∃ l, k l = some r ∧ l.length = n ∧ ∀ (ρ : Emb) (nx : Nat) (w : World) (G : Heap) (lc : Loc), (∀ p o, ρ p ≠ none → heapOf h p = some o → G p = some o) → HR ρ G nx w → ρ id = some lc →
      ∃ cs : List Value, All2 (SR ρ) l cs ∧ (loadCells (lc.at off) n).run P w = .ok cs.toArray w ∧ (∀ j v, cs[j]? = some v → w.cell? (lc.at (off + j)) = some v) := by
  rcases getK_some hh with ⟨rfl, hk⟩ | ⟨o, t, m, l, hg, hlk, hn, hl, hj, hk⟩
  · exact ⟨[], hk, rfl, fun ρ nx w G lc _ _ _ => ⟨[], .nil, rfl, fun j v h => by simp at h⟩⟩
  · refine ⟨l, hk, hl, fun ρ nx w G lc hs hr hid => ?_⟩
    obtain ⟨cs, h1, h2⟩ := cells_rel ((hr.at (hs _ _ (by rw [hid]; simp) hg) hid).look hlk) l off (fun j hj' => hj j (by omega))
    have hlen := h1.length
    refine ⟨cs, h1, ?_, h2⟩
    have := run_loadCells_list (P := P) w (lc.at off) cs (fun j v hv => by rw [at_add]; exact h2 j v hv)
    rwa [← hlen, hl] at this

def ReadOk (P : Program) (o : Op) (ro : ROp) : Prop :=
  ∀ (tm : Tm) (h : AH) (ret : AV → R) (r : AV × AH), ro tm h ret = some r → ∃ v, ret v = some r ∧
    ∀ (ρ : Emb) (ce : Operand → Value) (w : World) (G : Heap) (n : Nat), (∀ p o, ρ p ≠ none → heapOf h p = some o → G p = some o) → HR ρ G n w → EvR ρ tm ce o.operands →
      ∃ cv, VR ρ v cv ∧ ∀ (O : Oper), O.op = o → (execOp ce O).run P w = .ok (.value cv) w

section
variable {x y : Operand} {ax ay : Opd} {t : TypeId} {args : Array Operand} {ats : Array TypeId}

theorem rLoad1_rel {tm : Tm} {h : AH} {ret : AV → R} {r : AV × AH} (hh : rLoad1 ax tm h ret = some r) : ∃ v, ret v = some r ∧
    ∀ (ρ : Emb) (c : Value) (w : World) (G : Heap) (n : Nat), (∀ p o, ρ p ≠ none → heapOf h p = some o → G p = some o) → HR ρ G n w → VR ρ (ax tm) c →
      ∃ a cv, c = .pointer (some a) ∧ VR ρ v cv ∧ (load a).run P w = .ok cv w := by
  obtain ⟨id, off, e, h1⟩ := onPtr_some hh
  obtain ⟨o, t, m, hg, hlk, h2⟩ := cellsK_some h1
  obtain ⟨v, hv, h3⟩ := cellK_some h2
  refine ⟨_, h3, fun ρ c w G n hs hr hc => ?_⟩
  rw [e] at hc
  obtain ⟨l, hl, rfl⟩ := hc.ptr
  obtain ⟨c, T, fz, e1, e3⟩ := (hr.at (hs _ _ (by rw [hl]; simp) hg) hl).look hlk
  obtain ⟨cv, hc1, hc2⟩ := e3 off v hv
  exact ⟨_, cv, rfl, .s hc2, by simp [cell_at e1 hc1]⟩

theorem rLoadN_rel {k : Nat} {tm : Tm} {h : AH} {ret : AV → R} {r : AV × AH} (hh : rLoadN k ax tm h ret = some r) : ∃ v, ret v = some r ∧
    ∀ (ρ : Emb) (c : Value) (w : World) (G : Heap) (n : Nat), (∀ p o, ρ p ≠ none → heapOf h p = some o → G p = some o) → HR ρ G n w → VR ρ (ax tm) c →
      ∃ a cs, c = .pointer (some a) ∧ VR ρ v (.agg cs) ∧ (loadCells a k).run P w = .ok cs w := by
  obtain ⟨id, off, e, h1⟩ := onPtr_some hh
  obtain ⟨l, h2, hl, hrel⟩ := getK_rel (P := P) h1
  refine ⟨_, h2, fun ρ c w G n hs hr hc => ?_⟩
  rw [e] at hc
  obtain ⟨lc, hlc, rfl⟩ := hc.ptr
  obtain ⟨cs, h3, h4, _⟩ := hrel ρ n w G lc hs hr hlc
  exact ⟨_, _, rfl, .agg (by simpa using h3), h4⟩

theorem read_load1 (hx : opd x = some ax) (hg : aggT P t = some false) : ReadOk P (.load t x) (rLoad1 ax) := by
  intro tm h ret r hh
  obtain ⟨v, h1, hrel⟩ := rLoad1_rel (P := P) hh
  refine ⟨v, h1, fun ρ ce w G n hs hr he => ?_⟩
  obtain ⟨a, cv, e1, e2, e3⟩ := hrel ρ _ w G n hs hr (he x (by simp [Op.operands]) ax hx)
  exact ⟨cv, e2, fun O hO => by simp only [execOp, hO, Instr.loadAt, e1, Instr.sureAddr, loadVar, Sem.run_bind, Sem.run_pure, Result.andThen_ok, run_isAgg' hg, Bool.false_eq_true, if_false, e3]⟩

theorem read_loadN {k : Nat} (hx : opd x = some ax) (hg : aggT P t = some true) (hs : sizeT P t = some k) : ReadOk P (.load t x) (rLoadN k ax) := by
  intro tm h ret r hh
  obtain ⟨v, h1, hrel⟩ := rLoadN_rel (P := P) hh
  refine ⟨v, h1, fun ρ ce w G n hsub hr he => ?_⟩
  obtain ⟨a, cs, e1, e2, e3⟩ := hrel ρ _ w G n hsub hr (he x (by simp [Op.operands]) ax hx)
  exact ⟨_, e2, fun O hO => by simp only [execOp, hO, Instr.loadAt, e1, Instr.sureAddr, loadVar, Sem.run_bind, Sem.run_pure, Result.andThen_ok, run_isAgg' hg, if_true, run_sizeOf' hs, e3]⟩

theorem okK_some {ok : Bool} {v : AV} {tr : Bool} {ret : AV → R} {r : AV × AH} (h : okK ok v tr ret = some r) :
    ∃ u, ret u = some r ∧ ∀ (ρ : Emb) (c : Value), VR ρ v c → VR ρ u (if ok = true then .tuple #[c, .bool tr] else c) := by
  cases ok with
  | false => exact ⟨v, h, fun ρ c hc => hc⟩
  | true =>
    cases v with
    | s s => exact ⟨_, h, fun ρ c hc => by cases hc with | s hs => exact .tup (.cons (.s hs) (.cons (.s (.bool _)) .nil))⟩
    | agg l => exact ⟨_, h, fun ρ c hc => by cases hc with | agg hs => exact .tup (.cons (.agg hs) (.cons (.s (.bool _)) .nil))⟩
    | tup l => exact none_some h

theorem findE_some {z : Int} {miss : R} {hit : AV → R} {r : AV × AH} : ∀ {es : List (Int × AV)}, findE z miss hit es = some r →
    (miss = some r ∧ ∀ (ρ : Emb) (kd : IntKind) (ms : List MapEntry) (i : Nat), All2 (EntR ρ kd) es ms → ∀ kk, Instr.findNow (.int kk) (.int kd z) ms i = some none) ∨
    ∃ v, hit v = some r ∧ ∀ (ρ : Emb) (kd : IntKind) (ms : List MapEntry) (i : Nat), All2 (EntR ρ kd) es ms → ∀ kk, ∃ j cv, Instr.findNow (.int kk) (.int kd z) ms i = some (some (j, cv)) ∧ VR ρ v cv := by
  intro es
  induction es with
  | nil => intro h; exact .inl ⟨h, fun ρ kd ms i hm kk => by cases hm; rfl⟩
  | cons e es ih =>
    intro h
    rcases iteR_some (b := eqI z e.1) (t := hit e.2) (f := findE z miss hit es) h with ⟨he, h1⟩ | ⟨he, h1⟩
    · rw [eqI_eq] at he
      refine .inr ⟨e.2, h1, fun ρ kd ms i hm kk => ?_⟩
      cases hm with
      | @cons _ m _ ms hem hm =>
        refine ⟨i, m.val, ?_, hem.2⟩
        simp [Instr.findNow, Instr.sameNow, hem.1, he]
    · rw [eqI_eq] at he
      have step : ∀ (ρ : Emb) (kd : IntKind) (m : MapEntry) (ms : List MapEntry) (i : Nat) (kk : IntKind), EntR ρ kd e m → Instr.findNow (.int kk) (.int kd z) (m :: ms) i = Instr.findNow (.int kk) (.int kd z) ms (i + 1) := by
        intro ρ kd m ms i kk hem
        simp [Instr.findNow, Instr.sameNow, hem.1, he]
      rcases ih h1 with ⟨h2, h3⟩ | ⟨v, h2, h3⟩
      · refine .inl ⟨h2, fun ρ kd ms i hm kk => ?_⟩
        cases hm with
        | cons hem hm => rw [step ρ kd _ _ i kk hem]; exact h3 ρ kd _ _ hm kk
      · refine .inr ⟨v, h2, fun ρ kd ms i hm kk => ?_⟩
        cases hm with
        | cons hem hm => rw [step ρ kd _ _ i kk hem]; exact h3 ρ kd _ _ hm kk

theorem run_checkKey {kt : TypeId} {kk : IntKind} (hk : P.underlying kt = some (.int kk)) (e : Bool) (kd : IntKind) (z : Int) (w : World) : (Instr.checkKey e 10000 kt (.int kd z)).run P w = .ok () w := by
  have : ∀ D, (Instr.checkKey e (D + 1) kt (.int kd z)).run P w = .ok () w := fun D => by
    simp only [Instr.checkKey, Sem.run_bind, run_underlying' hk, Result.andThen_ok]; rfl
  exact this 9999

theorem read_lookup {kt e : TypeId} {kk : IntKind} {zv : Value} {z : AV} {ok : Bool} (hu : P.underlying t = some (.map kt e)) (hk : P.underlying kt = some (.int kk)) (hz : (P.info? e).bind (·.zero) = some zv) (hzc : AV.ofConst zv = some z)
    (hx : opd x = some ax) (hy : opd y = some ay) : ReadOk P (.lookup t x y ok) (rLookup z ok ax ay) := by
  obtain ⟨ie, hie, hze⟩ := Option.bind_eq_some_iff.1 hz
  have hzrun : ∀ w, (zeroValue e).run P w = .ok zv w := fun w => by simp [zeroValue, typeInfo, hie, hze]
  intro tm h ret r hh
  obtain ⟨kd, n, e2, h1⟩ := onInt_some hh
  rcases onMap_some h1 with ⟨e1, h2⟩ | ⟨id, e1, h2⟩
  · obtain ⟨u, h3, h4⟩ := okK_some h2
    refine ⟨u, h3, fun ρ ce w G nx hs hr he => ⟨_, h4 ρ zv (AV.ofConst_rel ρ hzc), fun O hO => ?_⟩⟩
    have v1 := (ev1 he hx (by simp [Op.operands]) e1).mnil
    have v2 := (ev1 he hy (by simp [Op.operands]) e2).int
    simp only [execOp, hO, Instr.lookup, Sem.run_bind, run_underlying' hu, Result.andThen_ok, v1, v2, Sem.run_pure, run_checkKey hk, Instr.findKey, run_underlying' hk]
    have : Instr.findNow (.int kk) (.int kd n) (#[] : Array MapEntry).toList 0 = some none := rfl
    rw [this]
    simp only [Sem.run_pure, Result.andThen_ok, Sem.run_bind, hzrun]
  · obtain ⟨kd', es, bs, clk, hg, h3⟩ := entsK_some h2
    obtain ⟨hkk, h4⟩ := guard_some h3
    obtain rfl := (sameK_eq _ _).1 hkk
    rcases findE_some h4 with ⟨h5, h6⟩ | ⟨v, h5, h6⟩
    · obtain ⟨u, h7, h8⟩ := okK_some h5
      refine ⟨u, h7, fun ρ ce w G nx hs hr he => ⟨_, h8 ρ zv (AV.ofConst_rel ρ hzc), fun O hO => ?_⟩⟩
      obtain ⟨l, hl, v1⟩ := (ev1 he hx (by simp [Op.operands]) e1).map
      have v2 := (ev1 he hy (by simp [Op.operands]) e2).int
      obtain ⟨ms, hm1, hm2, _⟩ := hr.at (hs _ _ (by rw [hl]; simp) hg) hl
      have hobj : (getObj l.block).run P w = .ok (.map ms clk) w := by simp [getObj, Sem.run, hm1]
      simp only [execOp, hO, Instr.lookup, Sem.run_bind, run_underlying' hu, Result.andThen_ok, v1, v2, Sem.run_pure, hobj, run_checkKey hk, Instr.findKey, run_underlying' hk, h6 ρ kd _ 0 hm2 kk, hzrun]
    · obtain ⟨u, h7, h8⟩ := okK_some h5
      refine ⟨u, h7, fun ρ ce w G nx hs hr he => ?_⟩
      obtain ⟨l, hl, v1⟩ := (ev1 he hx (by simp [Op.operands]) e1).map
      have v2 := (ev1 he hy (by simp [Op.operands]) e2).int
      obtain ⟨ms, hm1, hm2, _⟩ := hr.at (hs _ _ (by rw [hl]; simp) hg) hl
      have hobj : (getObj l.block).run P w = .ok (.map ms clk) w := by simp [getObj, Sem.run, hm1]
      obtain ⟨j, cv, h9, h10⟩ := h6 ρ kd _ 0 hm2 kk
      refine ⟨_, h8 ρ cv h10, fun O hO => ?_⟩
      simp only [execOp, hO, Instr.lookup, Sem.run_bind, run_underlying' hu, Result.andThen_ok, v1, v2, Sem.run_pure, hobj, run_checkKey hk, Instr.findKey, run_underlying' hk, h9]

theorem read_mlen {kt e : TypeId} {rest : List TypeId} (hu : P.underlying t = some (.map kt e)) (hx : opd x = some ax) (ha : args.toList = [x]) (ht : ats.toList = t :: rest) : ReadOk P (.call ⟨.builtin .len, args, ats⟩) (rMlen ax) := by
  obtain rfl : args = #[x] := by cases args; simp_all
  have ht0 : ats[0]? = some t := by rw [← Array.getElem?_toList, ht]; rfl
  intro tm h ret r hh
  rcases onMap_some hh with ⟨e1, h2⟩ | ⟨id, e1, h2⟩
  · refine ⟨_, h2, fun ρ ce w G nx hs hr he => ⟨_, .s (.int _ _), fun O hO => ?_⟩⟩
    have v1 := (ev1 he hx (by simp [Op.operands, Call.operands]) e1).mnil
    obtain ⟨cs, hrun⟩ := run_builtin (P := P) (ce := ce) hO rfl w
    rw [hrun]; simp [builtin, Builtin.len_, ht0, v1, run_underlying' hu, goInt]
  · obtain ⟨kd, es, bs, clk, hg, h3⟩ := entsK_some h2
    rw [forceN_eq] at h3
    refine ⟨_, h3, fun ρ ce w G nx hs hr he => ⟨_, .s (.int _ _), fun O hO => ?_⟩⟩
    obtain ⟨l, hl, v1⟩ := (ev1 he hx (by simp [Op.operands, Call.operands]) e1).map
    obtain ⟨ms, hm1, hm2, _⟩ := hr.at (hs _ _ (by rw [hl]; simp) hg) hl
    have hobj : (getObj l.block).run P w = .ok (.map ms clk) w := by simp [getObj, Sem.run, hm1]
    have hlen := hm2.length
    obtain ⟨cs, hrun⟩ := run_builtin (P := P) (ce := ce) hO rfl w
    rw [hrun]; simp [builtin, Builtin.len_, ht0, v1, run_underlying' hu, goInt, hobj, hlen]

theorem tv_rel {v : AV} {u : TV} (h : (∃ s, v = .s s ∧ u = .s s) ∨ ∃ l, v = .agg l ∧ u = .agg l) {ρ : Emb} {c : Value} (hv : VR ρ v c) : TR ρ u c := by
  rcases h with ⟨s, rfl, rfl⟩ | ⟨l, rfl, rfl⟩
  · cases hv with | s h => exact .s h
  · cases hv with | agg h => exact .agg h

theorem read_entry (hx : opd x = some ax) : ReadOk P (.entry x) (rEntry ax) := by
  intro tm h ret r hh
  obtain ⟨id, off, e1, h1⟩ := onPtr_some hh
  obtain ⟨h0, h2⟩ := guard_some h1
  obtain rfl : off = 0 := Nat.eq_of_beq_eq_true h0
  obtain ⟨m, since, seen, last, hgi, h3⟩ := iterK_some h2
  obtain ⟨kd, es, bs, clk, hgm, h4⟩ := mapK_some h3
  obtain ⟨s, rfl, h5⟩ := oneN_some h4
  obtain ⟨e, b, rfl, rfl, h6⟩ := oneK_some h5
  obtain ⟨hb, h7⟩ := guard_some h6
  rw [andB_eq, Bool.and_eq_true, Nat.beq_eq, Nat.beq_eq] at hb
  obtain ⟨rfl, rfl⟩ := hb
  obtain ⟨u, h8, hu⟩ := tv_some h7
  refine ⟨_, h8, fun ρ ce w G nx hs hr he => ?_⟩
  obtain ⟨l, hl, v1⟩ := (ev1 he hx (by simp [Op.operands]) e1).ptr
  obtain ⟨hb0, lm, hlm, hi⟩ := hr.at (hs _ _ (by rw [hl]; simp) hgi) hl
  obtain ⟨ms, hm1, hm2, hm3⟩ := hr.at (hs _ _ (by rw [hlm]; simp) hgm) hlm
  obtain ⟨me, rfl, hem⟩ : ∃ me, ms = #[me] ∧ EntR ρ kd e me := by
    obtain ⟨ml⟩ := ms
    cases hm2 with
    | cons h hm2 => cases hm2; exact ⟨_, rfl, h⟩
  have hborn : me.born = s := by simpa using hm3
  have hobj1 : (getObj l.block).run P w = .ok (.mapIter (some lm.block) since #[s] clk) w := by simp [getObj, Sem.run, hi]
  have hobj2 : (getObj lm.block).run P w = .ok (.map #[me] clk) w := by simp [getObj, Sem.run, hm1]
  refine ⟨.tuple #[.int kd e.1, me.val], .tup (.cons (.s (.int _ _)) (.cons (tv_rel hu hem.2) .nil)), fun O hO => ?_⟩
  have hv : ce x = .pointer (some ⟨l.block, 0, none⟩) := by rw [v1]; simp [Loc.at, hb0]
  simp [execOp, hO, Instr.entry, hv, hobj1, hobj2, hborn, hem.1]

/-- a string out of bytes -/
def pushAll : ByteArray → List Nat → ByteArray
  | s, [] => s
  | s, b :: r => pushAll (s.push (UInt8.ofNat b)) r
theorem pushAll_eq : ∀ (l : List Nat) (s : ByteArray), (∀ b ∈ l, b ≤ 255) → (pushAll s l).data.toList.map UInt8.toNat = s.data.toList.map UInt8.toNat ++ l
  | [], s, _ => by simp [pushAll]
  | b :: r, s, h => by
    rw [pushAll, pushAll_eq r _ (fun x hx => h x (by simp [hx]))]
    have hb := h b (by simp)
    have : (UInt8.ofNat b).toNat = b := by simp; omega
    simp [ByteArray.push, this]

theorem bytesK_some : ∀ {l : List SV} {k : List Nat → R} {r : AV × AH}, bytesK l k = some r → ∃ b, k b = some r ∧ l = b.map (fun n => SV.int .u8 (.ofNat n)) ∧ ∀ x ∈ b, x ≤ 255 := by
  intro l
  induction l with
  | nil => intro k r h; exact ⟨[], h, rfl, by simp⟩
  | cons v l ih =>
    intro k r h
    have h' : intS (fun kd z => iteR (Nat.beq (kindN kd) 4) (Int.rec (motive := fun _ => R) (fun n => iteR (Nat.ble n 255) (bytesK l fun r => k (n :: r)) none) (fun _ => none) z) none) v = some r := h
    cases v <;> first | exact none_some h' | skip
    rename_i kd z
    obtain ⟨hk, h1⟩ := guard_some (b := Nat.beq (kindN kd) 4) (t := Int.rec (motive := fun _ => R) (fun n => iteR (Nat.ble n 255) (bytesK l fun r => k (n :: r)) none) (fun _ => none) z) h'
    have hkd : kd = .u8 := by cases kd <;> simp [kindN] at hk ⊢
    cases z with
    | negSucc n => exact none_some h1
    | ofNat n =>
      obtain ⟨hn, h2⟩ := guard_some (b := Nat.ble n 255) (t := bytesK l fun r => k (n :: r)) h1
      obtain ⟨b, h3, h4, h5⟩ := ih h2
      refine ⟨n :: b, h3, by rw [hkd, h4]; rfl, fun x hx => ?_⟩
      simp at hx
      rcases hx with rfl | hx
      · exact Nat.le_of_ble_eq_true hn
      · exact h5 x hx

theorem read_b2s {src dst e : TypeId} (hs : P.underlying src = some (.slice e)) (hd : P.underlying dst = some .string) (he : P.underlying e = some (.int .u8)) (hx : opd x = some ax) : ReadOk P (.convert src dst x) (rB2S ax) := by
  intro tm h ret r hh
  have conv : ∀ (v : Value) (a : Option Addr) (n c : Nat) (w : World), v = .slice a n c → (convert src dst v).run P w = (Conv.bytesToString v).run P w := by
    intro v a n c w hv
    subst hv
    simp only [convert, Sem.run_bind, run_underlying' hs, run_underlying' hd, Result.andThen_ok, run_underlying' he]
  rcases onSl_some hh with ⟨e1, h2⟩ | ⟨id, off, len, cap, z, e1, h2⟩
  · refine ⟨_, h2, fun ρ ce w G nx hsub hr hev => ⟨.string .empty, .s (.str .empty), fun O hO => ?_⟩⟩
    have v1 := (ev1 hev hx (by simp [Op.operands]) e1).snil
    simp only [execOp, hO, Sem.run_bind, conv _ _ _ _ w v1]
    rw [v1]; rfl
  · obtain ⟨l, h3, hl, hrel⟩ := getK_rel (P := P) h2
    obtain ⟨b, h4, hb, hb255⟩ := bytesK_some h3
    refine ⟨_, h4, fun ρ ce w G nx hsub hr hev => ?_⟩
    obtain ⟨lc, m, hlc, v1, _⟩ := (ev1 hev hx (by simp [Op.operands]) e1).sl
    obtain ⟨cs, h5, h6, h6b⟩ := hrel ρ nx w G lc hsub hr hlc
    have hcs : cs = b.map (fun (n : Nat) => Value.int .u8 (n : Int)) := by
      subst hb
      clear h6 h6b h4 hl hb255 h3 hrel
      induction b generalizing cs with
      | nil => cases h5; rfl
      | cons n b ih => cases h5 with | cons h7 h8 => cases h7; rw [ih _ h8]; rfl
    have hloop : ∀ (b : List Nat) (s : ByteArray), (forIn (m := Sem) (b.map fun (n : Nat) => Value.int .u8 (n : Int)) s fun c r => match c with
        | .int .u8 n => pure (ForInStep.yield (r.push (UInt8.ofNat n.toNat)))
        | _ => do
          stuck "bytesToString: byte expected"
          pure (ForInStep.yield r)).run P w = .ok (pushAll s b) w := by
      intro b
      induction b with
      | nil => intro s; rfl
      | cons n b ih => intro s; simp [List.forIn_cons, pushAll] at ih ⊢; exact ih _
    refine ⟨.string (pushAll .empty b), .s (by have := SR.str (ρ := ρ) (pushAll .empty b); rw [pushAll_eq b .empty hb255] at this; simpa using this), fun O hO => ?_⟩
    simp only [execOp, hO, Sem.run_bind, conv _ _ _ _ w v1]
    rw [v1]
    have hlb := hloop b .empty
    rw [← hcs] at hlb
    simp only [Conv.bytesToString, Sem.run_bind, h6, Result.andThen_ok]
    rw [← Array.forIn_toList]
    rw [show cs.toArray.toList = cs by simp]
    erw [hlb]
    rfl
end
end Go.Bb
